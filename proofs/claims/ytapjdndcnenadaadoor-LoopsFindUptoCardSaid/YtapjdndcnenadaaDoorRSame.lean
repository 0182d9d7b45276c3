/- The reference's Same: two lists of loops. -/
import Derived.Test.YtapjdndcnenadaaDoorFindPlain
import Derived.Test.YtapjdndcnenadaaDoorSameL
import Derived.Deep.RegionHeld3
/- The reference's Has and Depth. -/
namespace Go.Proofs.YtapjdndcnenadaaDoor
open Go.RowKit

set_option maxHeartbeats 1000000 in
theorem rhas_any (v : Value) (l : List Int) (a : Int) (w : World) (h : IntsIn w v l) :
    Calls Tryd.prog 16 #[v, .int .i64 a] w (fun e w' => e = .returned (.bool (l.contains a)) ∧ w = w') := by
  have h0 := h
  obtain ⟨-, av, cv, rfl, h1, h2, -, hav⟩ := h0
  obtain ⟨n, hn⟩ : ∃ n, n = l.length := ⟨_, rfl⟩
  rw [← hn] at h1 hav h ⊢
  have hn9 : n ≤ 9223372036854775807 := by unfold maxLen at h2; omega
  have Hn := Lib.hid hn
  clear h hn h1 h2
  go_enter Tryd.func16, Tryd.ntmps16
  go_wp2_with fail
  go_loopw [5] (fun i wi => ∃ k : Nat, k ≤ n ∧ i = .int .i64 (k : Int) ∧ (∀ (j : Nat) u, j < k → l[j]? = some u → u ≠ a) ∧ wi = w) (fun i _ => n - (intOf i).toNat)
  case atStart => exact ⟨0, Nat.zero_le _, rfl, fun j u h => by omega, rfl⟩
  case round =>
    obtain ⟨k, hk, rfl, hno, hwr⟩ := hrel
    subst hwr
    by_cases hkn : k < n
    · obtain ⟨g, off, rfl, hg, hc⟩ := hav (by omega)
      obtain ⟨u, hu⟩ : ∃ u, l[k]? = some u := ⟨_, List.getElem?_eq_getElem (by rw [← Hn.out]; exact hkn)⟩
      have hcu := hc k _ (show (intVs l)[k]? = some (.int .i64 u) by simp [intVs, hu])
      have Hu := Lib.hid hu
      have Hno := Lib.hid hno
      clear hu hno hc
      by_cases hua : u = a
      · have hq : (u == a) = true := by simp [hua]
        have Hres : Hid (l.contains a = true) := by
          show _ = _
          rw [List.contains_iff_mem, ← hua]; exact List.mem_of_getElem? Hu.out
        clear hua
        go_wp2_with fail
        go_ret
        exact ⟨by rw [Hres.out]; rfl, rfl⟩
      · have hq : (u == a) = false := by simp [hua]
        go_wp2_with fail
        go_roundw
        case rel =>
          refine ⟨k + 1, hkn, by go_num, fun j y hj hy => ?_, trivial⟩
          by_cases e : j = k
          · subst e
            rw [Hu.out] at hy
            cases hy; exact hua
          · exact Hno.out j y (by omega) hy
        case measure => simp [intOf]; omega
    · obtain rfl : n = k := by omega
      have Hres : Hid (l.contains a = false) := by
        show _ = _
        rw [Bool.eq_false_iff]
        intro hm
        rw [List.contains_iff_mem] at hm
        obtain ⟨t, ht, e⟩ := List.mem_iff_getElem.1 hm
        exact hno t a (by rw [Hn.out]; exact ht) (by rw [List.getElem?_eq_getElem ht, e]) rfl
      clear hno hkn
      go_wp2_with fail
      go_ret
      exact ⟨by rw [Hres.out]; rfl, rfl⟩

set_option maxHeartbeats 1000000 in
theorem rdepth_any (v : Value) (l : List LP) (a : Int) (w : World) (h : LoopsIn w v l) :
    Calls Tryd.prog 14 #[v, .int .i64 a] w (fun e w' => e = .returned (.int .i64 (depthOf l a : Nat)) ∧ w = w') := by
  obtain ⟨av, cv, rfl, hlm, hav⟩ := h.form
  have H := Lib.hid h
  obtain ⟨n, hn⟩ : ∃ n, n = l.length := ⟨_, rfl⟩
  rw [← hn] at hlm hav h ⊢
  have hn9 : n ≤ 9223372036854775807 := by unfold maxLen at hlm; omega
  have Hn := Lib.hid hn
  clear h hn hlm
  go_enter Tryd.func14, Tryd.ntmps14
  go_wp2_with fail
  go_loopw [5, 6] (fun d i wi => ∃ k : Nat, k ≤ n ∧ d = .int .i64 (depthOf (l.take k) a : Nat) ∧ i = .int .i64 (k : Int) ∧ wi = w) (fun _ i _ => n - (intOf i).toNat)
  case atStart => exact ⟨0, Nat.zero_le _, rfl, rfl, rfl⟩
  case round =>
    obtain ⟨k, hk, rfl, rfl, hwr⟩ := hrel
    subst hwr
    have hdk : depthOf (l.take k) a ≤ k := Nat.le_trans (depthOf_le _ _) (by rw [List.length_take]; omega)
    by_cases hkn : k < n
    · obtain ⟨g, off, rfl, hg⟩ := hav (by omega)
      obtain ⟨x, hx⟩ : ∃ x, l[k]? = some x := ⟨_, List.getElem?_eq_getElem (by rw [← Hn.out]; exact hkn)⟩
      have hHl := H.out
      rw [← Hn.out] at hHl
      obtain ⟨-, -, c2, -⟩ := hHl.at' hx
      have hm := (hHl.each x (List.mem_of_getElem? hx)).1
      have hdt := depth_take hx a
      have hmv := hm
      obtain ⟨-, am, cm, hvm, -⟩ := hmv
      rw [hvm] at c2
      obtain ⟨nm, hnm⟩ : ∃ nm, nm = x.mem.length := ⟨_, rfl⟩
      rw [← hnm] at c2 hvm
      have Hm := Lib.hid hm
      have Hvm := Lib.hid hvm
      obtain ⟨d, hd⟩ : ∃ d, d = depthOf (l.take k) a := ⟨_, rfl⟩
      rw [← hd] at hdk hdt ⊢
      have Hdt := Lib.hid hdt
      clear hx hm hdt hHl hvm hnm hd
      go_wp2_with fail
      refine (rhas_any _ x.mem a _ (by rw [← Hvm.out]; exact Hm.out)).mono ?_
      rintro e w' ⟨rfl, rfl⟩
      cases hc : x.mem.contains a
      · have Hc : Hid (depthOf (l.take (k + 1)) a = d) := by show _ = _; rw [Hdt.out, hc]; simp
        clear hc
        go_wp2_with fail
        go_roundw
        case rel => exact ⟨k + 1, hkn, by rw [Hc.out], by go_num, trivial⟩
        case measure => simp [intOf]; omega
      · have Hc : Hid (depthOf (l.take (k + 1)) a = d + 1) := by show _ = _; rw [Hdt.out, hc]; simp
        clear hc
        go_wp2_with fail
        go_roundw
        case rel => exact ⟨k + 1, hkn, by rw [Hc.out]; go_num, by go_num, trivial⟩
        case measure => simp [intOf]; omega
    · obtain rfl : n = k := by omega
      have Hres : Hid (l.take n = l) := List.take_of_length_le (by rw [← Hn.out]; exact Nat.le_refl _)
      clear hkn
      go_wp2_with fail
      go_ret
      exact ⟨by rw [Hres.out]; rfl, rfl⟩
end Go.Proofs.YtapjdndcnenadaaDoor

/- The statements' own comparisons of lists: true just if the lists are the same. -/
namespace Go.Proofs.YtapjdndcnenadaaDoor
open Go.RowKit

set_option maxHeartbeats 400000 in
theorem sameInts14_any (va vb : Value) (la lb : List Int) (w : World) (ha : IntsIn w va la) (hb : IntsIn w vb lb) (hla : la.length ≤ 1000000000000000) (_hlb : lb.length ≤ 1000000000000000) :
    Calls Tryd.prog 29 #[va, vb] w (Reads (.bool (decide (la = lb))) w) := by
  have ha0 := ha
  have hb0 := hb
  obtain ⟨-, aa, ca, rfl, -⟩ := ha0
  obtain ⟨-, ab, cb, rfl, -⟩ := hb0
  have Ha := Lib.hid ha
  have Hb := Lib.hid hb
  clear ha hb
  obtain ⟨n, hn⟩ : ∃ n, n = la.length := ⟨_, rfl⟩
  obtain ⟨m, hm⟩ : ∃ m, m = lb.length := ⟨_, rfl⟩
  rw [← hn] at hla ⊢
  rw [← hm] at _hlb ⊢
  by_cases hnm : n = m
  · have hd : (((n : Int) != m) = false) := by simp [hnm]
    have Hn := Lib.hid hn
    have Hm := Lib.hid hm
    have Hnm := Lib.hid hnm
    clear hn hm hnm
    go_enter Tryd.func29, Tryd.ntmps29
    go_wp2_with fail
    go_loopw [5] (fun i wr => ∃ k : Nat, k ≤ n ∧ i = .int .i64 k ∧ la.take k = lb.take k ∧ ∃ q, wr = w.drewN q) (fun i _ => n - (intOf i).toNat)
    case atStart => exact ⟨0, Nat.zero_le _, rfl, rfl, 0, rfl⟩
    case round =>
      obtain ⟨k, hk, rfl, heq, q, rfl⟩ := hrel
      have Heq := Lib.hid heq
      clear heq
      have hn := Hn.out
      have hm := Hm.out
      have hnm := Hnm.out
      by_cases hkn : k < n
      · obtain ⟨b1, o1, rfl, hb1, hc1⟩ := IntsIn.cell Ha.out (k := k) (by omega)
        obtain ⟨b2, o2, rfl, hb2, hc2⟩ := IntsIn.cell Hb.out (k := k) (by omega)
        have hkm : k < m := by omega
        have hstep := fun h => take_eq_succ (j := k) Heq.out (by omega) (by omega) 0 h
        have Hstep := Lib.hid hstep
        clear hn hm hnm hstep
        cases hE : (la.getD k 0 != lb.getD k 0)
        · have HE := Lib.hid hE
          generalize la.getD k 0 = y at *
          generalize lb.getD k 0 = z at *
          go_wp2_with (go_quiet (fail))
          go_roundw
          case rel => exact ⟨k + 1, by omega, by go_num, Hstep.out (by simpa using HE.out), _, rfl⟩
          case measure => simp [intOf]; omega
        · have HE : Hid (la ≠ lb) := by
            intro h; rw [h] at hE; simp at hE
          generalize la.getD k 0 = y at *
          generalize lb.getD k 0 = z at *
          go_wp2_with (go_quiet (fail))
          go_ret
          refine ⟨ret_bool ?_, _, World.drewN_drewN _ _ _⟩
          simp only [Bool.false_eq_true, decide_eq_true_eq, false_iff]
          exact HE.out
      · have hfin : la = lb := take_all (by rw [show la.length = k by omega]; exact Heq.out) (by omega)
        have Hfin := Lib.hid hfin
        clear hfin hn hm hnm
        go_wp2_with fail
        go_ret
        exact ⟨ret_bool (by simp [Hfin.out]), _, rfl⟩
  · have hd : (((n : Int) != m) = true) := bne_iff_ne.2 (by omega)
    have Hn := Lib.hid hn
    have Hm := Lib.hid hm
    have Hnm := Lib.hid hnm
    clear hn hm hnm
    go_enter Tryd.func29, Tryd.ntmps29
    go_wp2_with fail
    go_ret
    refine ⟨ret_bool ?_, 0, rfl⟩
    simp only [Bool.false_eq_true, decide_eq_true_eq, false_iff]
    rintro rfl
    exact Hnm.out (Hn.out.trans Hm.out.symm)

end Go.Proofs.YtapjdndcnenadaaDoor

namespace Go.Proofs.YtapjdndcnenadaaDoor
open Go.RowKit

/-- What is compared of a loop. -/
def LP.key (x : LP) : Int × Int × List Int × List Int := (x.head, x.parent, x.mem, x.backs)

set_option maxRecDepth 100000 in
set_option maxHeartbeats 3000000 in
theorem rsame_any (va vb : Value) (la lb : List LP) (w : World) (ha : LoopsIn w va la) (hb : LoopsIn w vb lb) (hla : la.length ≤ 1000000) (hlb : lb.length ≤ 1000000)
    (hma : ∀ x ∈ la, x.mem.length ≤ 1000000 ∧ x.backs.length ≤ 1000000) (hmb : ∀ x ∈ lb, x.mem.length ≤ 1000000 ∧ x.backs.length ≤ 1000000) :
    Calls Tryd.prog 10 #[va, vb] w (Reads (.bool (decide (la.map LP.key = lb.map LP.key))) w) := by
  obtain ⟨aa, ca, rfl, -, haa⟩ := ha.form
  obtain ⟨ab, cb, rfl, -, hab⟩ := hb.form
  have Ha := Lib.hid ha
  have Hb := Lib.hid hb
  obtain ⟨na, hna⟩ : ∃ n, n = la.length := ⟨_, rfl⟩
  obtain ⟨nb, hnb⟩ : ∃ n, n = lb.length := ⟨_, rfl⟩
  rw [← hna] at hla haa ⊢
  rw [← hnb] at hlb hab ⊢
  have Hn := Lib.hid (And.intro hna hnb)
  have Hm := Lib.hid (And.intro hma hmb)
  clear ha hb hna hnb hma hmb
  by_cases hab' : na = nb
  · have hq0 : ((na : Int) != (nb : Int)) = false := by simp [hab']
    subst hab'
    go_enter Tryd.func10, Tryd.ntmps10
    go_wp2_with fail
    go_loopw [5] (fun i wi => ∃ (k q : Nat), k ≤ na ∧ i = .int .i64 (k : Int) ∧ (la.map LP.key).take k = (lb.map LP.key).take k ∧ wi = w.drewN q) (fun i _ => na - (intOf i).toNat)
    case atStart => exact ⟨0, 0, Nat.zero_le _, rfl, by simp, rfl⟩
    case round =>
      obtain ⟨k, q, hk, rfl, htk, hwr⟩ := hrel
      subst hwr
      by_cases hkn : k < na
      · obtain ⟨ga, oa, rfl, hga⟩ := haa (by omega)
        obtain ⟨gb, ob, rfl, hgb⟩ := hab (by omega)
        obtain ⟨x, hx⟩ : ∃ x, la[k]? = some x := ⟨_, List.getElem?_eq_getElem (by rw [← Hn.out.1]; exact hkn)⟩
        obtain ⟨y, hy⟩ : ∃ y, lb[k]? = some y := ⟨_, List.getElem?_eq_getElem (by rw [← Hn.out.2]; exact hkn)⟩
        have hA := Ha.out
        have hB := Hb.out
        rw [← Hn.out.1] at hA
        rw [← Hn.out.2] at hB
        obtain ⟨a0, a1, a2, a3⟩ := hA.at' hx
        obtain ⟨b0, b1, b2, b3⟩ := hB.at' hy
        obtain ⟨hxm, hxb⟩ := hA.each x (List.mem_of_getElem? hx)
        obtain ⟨hym, hyb⟩ := hB.each y (List.mem_of_getElem? hy)
        obtain ⟨lxm, lxb⟩ := Hm.out.1 x (List.mem_of_getElem? hx)
        obtain ⟨lym, lyb⟩ := Hm.out.2 y (List.mem_of_getElem? hy)
        have hkx : (la.map LP.key)[k]? = some x.key := by rw [List.getElem?_map, hx]; rfl
        have hky : (lb.map LP.key)[k]? = some y.key := by rw [List.getElem?_map, hy]; rfl
        obtain ⟨xh, xp, xvm, xvb, xm, xb⟩ := x
        obtain ⟨yh, yp, yvm, yvb, ym, yb⟩ := y
        simp only at a0 a1 a2 a3 b0 b1 b2 b3 hxm hxb hym hyb lxm lxb lym lyb
        have HX := Lib.hid (And.intro hxm (And.intro hxb (And.intro hym hyb)))
        have HL : Hid (xm.length ≤ 1000000000000000 ∧ xb.length ≤ 1000000000000000 ∧ ym.length ≤ 1000000000000000 ∧ yb.length ≤ 1000000000000000) := ⟨by omega, by omega, by omega, by omega⟩
        have HK := Lib.hid (And.intro hkx (And.intro hky htk))
        have hdiff : LP.key ⟨xh, xp, xvm, xvb, xm, xb⟩ ≠ LP.key ⟨yh, yp, yvm, yvb, ym, yb⟩ → ¬ la.map LP.key = lb.map LP.key := fun hne e => by
          have h1 := HK.out.1
          rw [e, HK.out.2.1] at h1
          exact hne (Option.some.inj h1).symm
        have Hdiff := Lib.hid hdiff
        clear hx hy hA hB hxm hxb hym hyb lxm lxb lym lyb hkx hky htk hdiff
        go_upto_region 6 with (fail)
        refine wp_region_held (S := fun W' => ∃ n0, W' = w.drewN n0) rfl ?_
        change wpAnyH _ _ _ _ (fun W' => ∃ n0, W' = w.drewN n0) _ _ _ (w.drewN q).drew
        obtain ⟨W0, hW0⟩ : ∃ W0, W0 = (w.drewN q).drew := ⟨_, rfl⟩
        rw [← hW0]
        have Hb : Hid (∃ n0, W0 = w.drewN n0) := ⟨q + 1, by rw [hW0]; rfl⟩
        clear hW0
        by_cases h0 : xh = yh
        · have q1 : (xh != yh) = false := by simp [h0]
          by_cases h1 : xp = yp
          · have q2 : (xp != yp) = false := by simp [h1]
            by_cases h2 : xm = ym
            · have q3 : decide (xm = ym) = true := by simp [h2]
              by_cases h3 : xb = yb
              · have q4 : decide (xb = yb) = true := by simp [h3]
                have Heq : Hid (LP.key ⟨xh, xp, xvm, xvb, xm, xb⟩ = LP.key ⟨yh, yp, yvm, yvb, ym, yb⟩) := by show (_, _, _, _) = (_, _, _, _); rw [h0, h1, h2, h3]
                clear h0 h1 h2 h3
                refine wpAnyH_take (i := 0) (by simp only [List.getElem?_toArray, List.getElem?_cons_zero]; rfl) (by kernel_rfl) (by kernel_rfl) (by kernel_rfl) (by intro _ _ _ h; exact h) (Or.inl ⟨by first | rfl | go_simp, fun w hw => by (obtain ⟨n0, rfl⟩ := hw; go_simp; try rfl)⟩) Hb.out ?_
                refine wpAnyH_take (i := 1) (by simp only [List.getElem?_toArray, List.getElem?_cons_succ, List.getElem?_cons_zero]; rfl) (by kernel_rfl) (by kernel_rfl) (by kernel_rfl) (by intro _ _ _ h; exact h) (Or.inl ⟨by first | rfl | go_simp, fun w hw => by (obtain ⟨n0, rfl⟩ := hw; go_simp; try rfl)⟩) Hb.out ?_
                try go_frame
                refine wpAnyH_take (i := 2) (by simp only [List.getElem?_toArray, List.getElem?_cons_succ, List.getElem?_cons_zero]; rfl) (by kernel_rfl) (by kernel_rfl) (by kernel_rfl) (by intro _ _ _ h; exact h) (Or.inl ⟨by first | rfl | go_simp, fun w hw => by (obtain ⟨n0, rfl⟩ := hw; go_simp; try rfl)⟩) Hb.out ?_
                refine wpAnyH_take (i := 3) (by simp only [List.getElem?_toArray, List.getElem?_cons_succ, List.getElem?_cons_zero]; rfl) (by kernel_rfl) (by kernel_rfl) (by kernel_rfl) (by intro _ _ _ h; exact h) (Or.inl ⟨by first | rfl | go_simp, fun w hw => by (obtain ⟨n0, rfl⟩ := hw; go_simp; try rfl)⟩) Hb.out ?_
                try go_frame
                refine wpAnyH_take (i := 4) (by simp only [List.getElem?_toArray, List.getElem?_cons_succ, List.getElem?_cons_zero]; rfl) (by kernel_rfl) (by kernel_rfl) (by kernel_rfl) (by intro _ _ _ h; exact h) (Or.inl ⟨by first | rfl | go_simp, fun w hw => by (obtain ⟨n0, rfl⟩ := hw; go_simp; try rfl)⟩) Hb.out ?_
                refine wpAnyH_take (i := 5) (by simp only [List.getElem?_toArray, List.getElem?_cons_succ, List.getElem?_cons_zero]; rfl) (by kernel_rfl) (by kernel_rfl) (by kernel_rfl) (by intro _ _ _ h; exact h) (Or.inl ⟨by first | rfl | go_simp, fun w hw => by (obtain ⟨n0, rfl⟩ := hw; go_simp; try rfl)⟩) Hb.out ?_
                try go_frame
                refine wpAnyH_take (i := 6) (by simp only [List.getElem?_toArray, List.getElem?_cons_succ, List.getElem?_cons_zero]; rfl) (by kernel_rfl) (by kernel_rfl) (by kernel_rfl) (by intro _ _ _ h; exact h) (Or.inl ⟨by first | rfl | go_simp, fun w hw => by (obtain ⟨n0, rfl⟩ := hw; go_simp; try rfl)⟩) Hb.out ?_
                refine wpAnyH_take (i := 7) (by simp only [List.getElem?_toArray, List.getElem?_cons_succ, List.getElem?_cons_zero]; rfl) (by kernel_rfl) (by kernel_rfl) (by kernel_rfl) (by intro _ _ _ h; exact h) (Or.inl ⟨by first | rfl | go_simp, fun w hw => by (obtain ⟨n0, rfl⟩ := hw; go_simp; try rfl)⟩) Hb.out ?_
                try go_frame
                refine wpAnyH_take (i := 8) (by simp only [List.getElem?_toArray, List.getElem?_cons_succ, List.getElem?_cons_zero]; rfl) (by kernel_rfl) (by kernel_rfl) (by kernel_rfl) (by intro _ _ _ h; exact h) (Or.inl ⟨by first | rfl | go_simp, fun w hw => by (obtain ⟨n0, rfl⟩ := hw; go_simp; try rfl)⟩) Hb.out ?_
                refine wpAnyH_take (i := 9) (by simp only [List.getElem?_toArray, List.getElem?_cons_succ, List.getElem?_cons_zero]; rfl) (by kernel_rfl) (by kernel_rfl) (by kernel_rfl) (by intro _ _ _ h; exact h) (Or.inl ⟨by first | rfl | go_simp, fun w hw => by (obtain ⟨n0, rfl⟩ := hw; go_simp; try rfl)⟩) Hb.out ?_
                try go_frame
                refine wpAnyH_take (i := 10) (by simp only [List.getElem?_toArray, List.getElem?_cons_succ, List.getElem?_cons_zero]; rfl) (by kernel_rfl) (by kernel_rfl) (by kernel_rfl) (by intro _ _ _ h; exact h) (Or.inl ⟨by first | rfl | go_simp, fun w hw => by (obtain ⟨n0, rfl⟩ := hw; go_simp; try rfl)⟩) Hb.out ?_
                refine wpAnyH_take (i := 11) (by simp only [List.getElem?_toArray, List.getElem?_cons_succ, List.getElem?_cons_zero]; rfl) (by kernel_rfl) (by kernel_rfl) (by kernel_rfl) (by intro _ _ _ h; exact h) (Or.inl ⟨by first | rfl | go_simp, fun w hw => by (obtain ⟨n0, rfl⟩ := hw; go_simp; try rfl)⟩) Hb.out ?_
                try go_frame
                refine wpAnyH_take (i := 12) (by simp only [List.getElem?_toArray, List.getElem?_cons_succ, List.getElem?_cons_zero]; rfl) (by kernel_rfl) (by kernel_rfl) (by kernel_rfl) (by intro _ _ _ h; exact h) (Or.inl ⟨by first | rfl | go_simp, fun w hw => by (obtain ⟨n0, rfl⟩ := hw; go_simp; try rfl)⟩) Hb.out ?_
                refine wpAnyH_take (i := 13) (by simp only [List.getElem?_toArray, List.getElem?_cons_succ, List.getElem?_cons_zero]; rfl) (by kernel_rfl) (by kernel_rfl) (by kernel_rfl) (by intro _ _ _ h; exact h) (Or.inl ⟨by first | rfl | go_simp, fun w hw => by (obtain ⟨n0, rfl⟩ := hw; go_simp; try rfl)⟩) Hb.out ?_
                try go_frame
                refine wpAnyH_take (i := 14) (by simp only [List.getElem?_toArray, List.getElem?_cons_succ, List.getElem?_cons_zero]; rfl) (by kernel_rfl) (by kernel_rfl) (by kernel_rfl) (by intro _ _ _ h; exact h) (Or.inl ⟨by first | rfl | go_simp, fun w hw => by (obtain ⟨n0, rfl⟩ := hw; go_simp; try rfl)⟩) Hb.out ?_
                refine wpAnyH_take (i := 15) (by simp only [List.getElem?_toArray, List.getElem?_cons_succ, List.getElem?_cons_zero]; rfl) (by kernel_rfl) (by kernel_rfl) (by kernel_rfl) (by intro _ _ _ h; exact h) (Or.inl ⟨by first | rfl | go_simp, fun w hw => by (obtain ⟨n0, rfl⟩ := hw; go_simp; try rfl)⟩) Hb.out ?_
                try go_frame
                refine wpAnyH_take (i := 16) (by simp only [List.getElem?_toArray, List.getElem?_cons_succ, List.getElem?_cons_zero]; rfl) (by kernel_rfl) (by kernel_rfl) (by kernel_rfl) (by intro _ _ _ h; exact h) (Or.inl ⟨by first | rfl | go_simp, fun w hw => by (obtain ⟨n0, rfl⟩ := hw; go_simp; try rfl)⟩) Hb.out ?_
                refine wpAnyH_take (i := 17) (by simp only [List.getElem?_toArray, List.getElem?_cons_succ, List.getElem?_cons_zero]; rfl) (by kernel_rfl) (by kernel_rfl) (by kernel_rfl) (by intro _ _ _ h; exact h) (Or.inl ⟨by first | rfl | go_simp, fun w hw => by (obtain ⟨n0, rfl⟩ := hw; go_simp; try rfl)⟩) Hb.out ?_
                try go_frame
                refine wpAnyH_take (i := 18) (by simp only [List.getElem?_toArray, List.getElem?_cons_succ, List.getElem?_cons_zero]; rfl) (by kernel_rfl) (by kernel_rfl) (by kernel_rfl) (by intro _ _ _ h; exact h) (Or.inl ⟨by first | rfl | go_simp, fun w hw => by (obtain ⟨n0, rfl⟩ := hw; go_simp; try rfl)⟩) Hb.out ?_
                refine wpAnyH_take (i := 19) (by simp only [List.getElem?_toArray, List.getElem?_cons_succ, List.getElem?_cons_zero]; rfl) (by kernel_rfl) (by kernel_rfl) (by kernel_rfl) (by intro _ _ _ h; exact h) (Or.inl ⟨by first | rfl | go_simp, fun w hw => by (obtain ⟨n0, rfl⟩ := hw; go_simp; try rfl)⟩) Hb.out ?_
                try go_frame
                refine wpAnyH_take (i := 20) (by simp only [List.getElem?_toArray, List.getElem?_cons_succ, List.getElem?_cons_zero]; rfl) (by kernel_rfl) (by kernel_rfl) (by kernel_rfl) (by intro _ _ _ h; exact h) (Or.inl ⟨by first | rfl | go_simp, fun w hw => by (obtain ⟨n0, rfl⟩ := hw; go_simp; try rfl)⟩) Hb.out ?_
                refine wpAnyH_take (i := 21) (by simp only [List.getElem?_toArray, List.getElem?_cons_succ, List.getElem?_cons_zero]; rfl) (by kernel_rfl) (by kernel_rfl) (by kernel_rfl) (by intro _ _ _ h; exact h) (Or.inl ⟨by first | rfl | go_simp, fun w hw => by (obtain ⟨n0, rfl⟩ := hw; go_simp; try rfl)⟩) Hb.out ?_
                try go_frame
                refine wpAnyH_take (i := 22) (by simp only [List.getElem?_toArray, List.getElem?_cons_succ, List.getElem?_cons_zero]; rfl) (by kernel_rfl) (by kernel_rfl) (by kernel_rfl) (by intro _ _ _ h; exact h) (Or.inl ⟨by first | rfl | go_simp, fun w hw => by (obtain ⟨n0, rfl⟩ := hw; go_simp; try rfl)⟩) Hb.out ?_
                refine wpAnyH_take (i := 23) (by simp only [List.getElem?_toArray, List.getElem?_cons_succ, List.getElem?_cons_zero]; rfl) (by kernel_rfl) (by kernel_rfl) (by kernel_rfl) (by intro _ _ _ h; exact h) (Or.inl ⟨by first | rfl | go_simp, fun w hw => by (obtain ⟨n0, rfl⟩ := hw; go_simp; try rfl)⟩) Hb.out ?_
                try go_frame
                refine wpAnyH_take (i := 24) (by simp only [List.getElem?_toArray, List.getElem?_cons_succ, List.getElem?_cons_zero]; rfl) (by kernel_rfl) (by kernel_rfl) (by kernel_rfl) (by intro _ _ _ h; exact h) (Or.inl ⟨by first | rfl | go_simp, fun w hw => by (obtain ⟨n0, rfl⟩ := hw; go_simp; try rfl)⟩) Hb.out ?_
                refine wpAnyH_take (i := 25) (by simp only [List.getElem?_toArray, List.getElem?_cons_succ, List.getElem?_cons_zero]; rfl) (by kernel_rfl) (by kernel_rfl) (by kernel_rfl) (by intro _ _ _ h; exact h) (Or.inl ⟨by first | rfl | go_simp, fun w hw => by (obtain ⟨n0, rfl⟩ := hw; go_simp; try rfl)⟩) Hb.out ?_
                try go_frame
                refine wpAnyH_take (i := 26) (by simp only [List.getElem?_toArray, List.getElem?_cons_succ, List.getElem?_cons_zero]; rfl) (by kernel_rfl) (by kernel_rfl) (by kernel_rfl) (by intro _ _ _ h; exact h) (Or.inl ⟨by first | rfl | go_simp, fun w hw => by (obtain ⟨n0, rfl⟩ := hw; go_simp; try rfl)⟩) Hb.out ?_
                refine wpAnyH_take (i := 27) (by simp only [List.getElem?_toArray, List.getElem?_cons_succ, List.getElem?_cons_zero]; rfl) (by kernel_rfl) (by kernel_rfl) (by kernel_rfl) (by intro _ _ _ h; exact h) (Or.inl ⟨by first | rfl | go_simp, fun w hw => by (obtain ⟨n0, rfl⟩ := hw; go_simp; try rfl)⟩) Hb.out ?_
                try go_frame
                refine wpAnyH_take (i := 28) (by simp only [List.getElem?_toArray, List.getElem?_cons_succ, List.getElem?_cons_zero]; rfl) (by kernel_rfl) (by kernel_rfl) (by kernel_rfl) (by intro _ _ _ h; exact h) (Or.inl ⟨by first | rfl | go_simp, fun w hw => by (obtain ⟨n0, rfl⟩ := hw; go_simp; try rfl)⟩) Hb.out ?_
                refine wpAnyH_take (i := 29) (by simp only [List.getElem?_toArray, List.getElem?_cons_succ, List.getElem?_cons_zero]; rfl) (by kernel_rfl) (by kernel_rfl) (by kernel_rfl) (by intro _ _ _ h; exact h) (Or.inl ⟨by first | rfl | go_simp, fun w hw => by (obtain ⟨n0, rfl⟩ := hw; go_simp; try rfl)⟩) Hb.out ?_
                try go_frame
                refine wpAnyH_take (i := 30) (by simp only [List.getElem?_toArray, List.getElem?_cons_succ, List.getElem?_cons_zero]; rfl) (by kernel_rfl) (by kernel_rfl) (by kernel_rfl) (by intro _ _ _ h; exact h) (Or.inl ⟨by first | rfl | go_simp, fun w hw => by (obtain ⟨n0, rfl⟩ := hw; go_simp; try rfl)⟩) Hb.out ?_
                refine wpAnyH_take (i := 31) (by simp only [List.getElem?_toArray, List.getElem?_cons_succ, List.getElem?_cons_zero]; rfl) (by kernel_rfl) (by kernel_rfl) (by kernel_rfl) (by intro _ _ _ h; exact h) (Or.inl ⟨by first | rfl | go_simp, fun w hw => by (obtain ⟨n0, rfl⟩ := hw; go_simp; try rfl)⟩) Hb.out ?_
                try go_frame
                refine wpAnyH_take (i := 32) (by simp only [List.getElem?_toArray, List.getElem?_cons_succ, List.getElem?_cons_zero]; rfl) (by kernel_rfl) (by kernel_rfl) (by kernel_rfl) (by intro _ _ _ h; exact h) (Or.inl ⟨by first | rfl | go_simp, fun w hw => by (obtain ⟨n0, rfl⟩ := hw; go_simp; try rfl)⟩) Hb.out ?_
                refine wpAnyH_take (i := 33) (by simp only [List.getElem?_toArray, List.getElem?_cons_succ, List.getElem?_cons_zero]; rfl) (by kernel_rfl) (by kernel_rfl) (by kernel_rfl) (by intro _ _ _ h; exact h) (Or.inl ⟨by first | rfl | go_simp, fun w hw => by (obtain ⟨n0, rfl⟩ := hw; go_simp; try rfl)⟩) Hb.out ?_
                try go_frame
                refine wpAnyH_take (i := 34) (by simp only [List.getElem?_toArray, List.getElem?_cons_succ, List.getElem?_cons_zero]; rfl) (by kernel_rfl) (by kernel_rfl) (by kernel_rfl) (by intro _ _ _ h; exact h) (Or.inl ⟨by first | rfl | go_simp, fun w hw => by (obtain ⟨n0, rfl⟩ := hw; go_simp; try rfl)⟩) Hb.out ?_
                refine wpAnyH_ready (rs := [35]) (by kernel_rfl) (by simp) ?_
                refine AllReadyH.cons rfl (fun K hK => ?_) AllReadyH.nil
                go_simp
                refine (sameInts14_any _ _ xm ym _ (by obtain ⟨n0, e⟩ := Hb.out; rw [e]; exact SliceIn.later HX.out.1 (below_draws _ _)) (by obtain ⟨n0, e⟩ := Hb.out; rw [e]; exact SliceIn.later HX.out.2.2.1 (below_draws _ _)) HL.out.1 HL.out.2.2.1).mono ?_
                rintro e w1 ⟨rfl, n1, hw1⟩
                dsimp only
                have Hb : Hid (∃ n0, w1 = w.drewN n0) := by obtain ⟨n0, e⟩ := Hb.out; exact ⟨n0 + n1, by rw [hw1, e, World.drewN_drewN]⟩
                refine hK.out _ _ Hb.out (fun _ => ?_)
                clear hK K hw1
                try go_frame
                try go_frame
                refine wpAnyH_take (i := 36) (by simp only [List.getElem?_toArray, List.getElem?_cons_succ, List.getElem?_cons_zero]; rfl) (by kernel_rfl) (by kernel_rfl) (by kernel_rfl) (by intro _ _ _ h; exact h) (Or.inl ⟨by first | rfl | go_simp, fun w hw => by (obtain ⟨n0, rfl⟩ := hw; go_simp; try rfl)⟩) Hb.out ?_
                refine wpAnyH_take (i := 37) (by simp only [List.getElem?_toArray, List.getElem?_cons_succ, List.getElem?_cons_zero]; rfl) (by kernel_rfl) (by kernel_rfl) (by kernel_rfl) (by intro _ _ _ h; exact h) (Or.inl ⟨by first | rfl | go_simp, fun w hw => by (obtain ⟨n0, rfl⟩ := hw; go_simp; try rfl)⟩) Hb.out ?_
                try go_frame
                refine wpAnyH_take (i := 38) (by simp only [List.getElem?_toArray, List.getElem?_cons_succ, List.getElem?_cons_zero]; rfl) (by kernel_rfl) (by kernel_rfl) (by kernel_rfl) (by intro _ _ _ h; exact h) (Or.inl ⟨by first | rfl | go_simp, fun w hw => by (obtain ⟨n0, rfl⟩ := hw; go_simp; try rfl)⟩) Hb.out ?_
                refine wpAnyH_take (i := 39) (by simp only [List.getElem?_toArray, List.getElem?_cons_succ, List.getElem?_cons_zero]; rfl) (by kernel_rfl) (by kernel_rfl) (by kernel_rfl) (by intro _ _ _ h; exact h) (Or.inl ⟨by first | rfl | go_simp, fun w hw => by (obtain ⟨n0, rfl⟩ := hw; go_simp; try rfl)⟩) Hb.out ?_
                try go_frame
                refine wpAnyH_take (i := 40) (by simp only [List.getElem?_toArray, List.getElem?_cons_succ, List.getElem?_cons_zero]; rfl) (by kernel_rfl) (by kernel_rfl) (by kernel_rfl) (by intro _ _ _ h; exact h) (Or.inl ⟨by first | rfl | go_simp, fun w hw => by (obtain ⟨n0, rfl⟩ := hw; go_simp; try rfl)⟩) Hb.out ?_
                refine wpAnyH_take (i := 41) (by simp only [List.getElem?_toArray, List.getElem?_cons_succ, List.getElem?_cons_zero]; rfl) (by kernel_rfl) (by kernel_rfl) (by kernel_rfl) (by intro _ _ _ h; exact h) (Or.inl ⟨by first | rfl | go_simp, fun w hw => by (obtain ⟨n0, rfl⟩ := hw; go_simp; try rfl)⟩) Hb.out ?_
                try go_frame
                refine wpAnyH_take (i := 42) (by simp only [List.getElem?_toArray, List.getElem?_cons_succ, List.getElem?_cons_zero]; rfl) (by kernel_rfl) (by kernel_rfl) (by kernel_rfl) (by intro _ _ _ h; exact h) (Or.inl ⟨by first | rfl | go_simp, fun w hw => by (obtain ⟨n0, rfl⟩ := hw; go_simp; try rfl)⟩) Hb.out ?_
                refine wpAnyH_take (i := 43) (by simp only [List.getElem?_toArray, List.getElem?_cons_succ, List.getElem?_cons_zero]; rfl) (by kernel_rfl) (by kernel_rfl) (by kernel_rfl) (by intro _ _ _ h; exact h) (Or.inl ⟨by first | rfl | go_simp, fun w hw => by (obtain ⟨n0, rfl⟩ := hw; go_simp; try rfl)⟩) Hb.out ?_
                try go_frame
                refine wpAnyH_take (i := 44) (by simp only [List.getElem?_toArray, List.getElem?_cons_succ, List.getElem?_cons_zero]; rfl) (by kernel_rfl) (by kernel_rfl) (by kernel_rfl) (by intro _ _ _ h; exact h) (Or.inl ⟨by first | rfl | go_simp, fun w hw => by (obtain ⟨n0, rfl⟩ := hw; go_simp; try rfl)⟩) Hb.out ?_
                refine wpAnyH_take (i := 45) (by simp only [List.getElem?_toArray, List.getElem?_cons_succ, List.getElem?_cons_zero]; rfl) (by kernel_rfl) (by kernel_rfl) (by kernel_rfl) (by intro _ _ _ h; exact h) (Or.inl ⟨by first | rfl | go_simp, fun w hw => by (obtain ⟨n0, rfl⟩ := hw; go_simp; try rfl)⟩) Hb.out ?_
                try go_frame
                refine wpAnyH_take (i := 46) (by simp only [List.getElem?_toArray, List.getElem?_cons_succ, List.getElem?_cons_zero]; rfl) (by kernel_rfl) (by kernel_rfl) (by kernel_rfl) (by intro _ _ _ h; exact h) (Or.inl ⟨by first | rfl | go_simp, fun w hw => by (obtain ⟨n0, rfl⟩ := hw; go_simp; try rfl)⟩) Hb.out ?_
                refine wpAnyH_take (i := 47) (by simp only [List.getElem?_toArray, List.getElem?_cons_succ, List.getElem?_cons_zero]; rfl) (by kernel_rfl) (by kernel_rfl) (by kernel_rfl) (by intro _ _ _ h; exact h) (Or.inl ⟨by first | rfl | go_simp, fun w hw => by (obtain ⟨n0, rfl⟩ := hw; go_simp; try rfl)⟩) Hb.out ?_
                try go_frame
                refine wpAnyH_take (i := 48) (by simp only [List.getElem?_toArray, List.getElem?_cons_succ, List.getElem?_cons_zero]; rfl) (by kernel_rfl) (by kernel_rfl) (by kernel_rfl) (by intro _ _ _ h; exact h) (Or.inl ⟨by first | rfl | go_simp, fun w hw => by (obtain ⟨n0, rfl⟩ := hw; go_simp; try rfl)⟩) Hb.out ?_
                refine wpAnyH_ready (rs := [49]) (by kernel_rfl) (by simp) ?_
                refine AllReadyH.cons rfl (fun K hK => ?_) AllReadyH.nil
                go_simp
                refine (sameInts14_any _ _ xb yb _ (by obtain ⟨n0, e⟩ := Hb.out; rw [e]; exact SliceIn.later HX.out.2.1 (below_draws _ _)) (by obtain ⟨n0, e⟩ := Hb.out; rw [e]; exact SliceIn.later HX.out.2.2.2 (below_draws _ _)) HL.out.2.1 HL.out.2.2.2).mono ?_
                rintro e w1 ⟨rfl, n1, hw1⟩
                dsimp only
                have Hb : Hid (∃ n0, w1 = w.drewN n0) := by obtain ⟨n0, e⟩ := Hb.out; exact ⟨n0 + n1, by rw [hw1, e, World.drewN_drewN]⟩
                refine hK.out _ _ Hb.out (fun _ => ?_)
                clear hK K hw1
                try go_frame
                try go_frame
                refine wpAnyH_take (i := 50) (by simp only [List.getElem?_toArray, List.getElem?_cons_succ, List.getElem?_cons_zero]; rfl) (by kernel_rfl) (by kernel_rfl) (by kernel_rfl) (by intro _ _ _ h; exact h) (Or.inl ⟨by first | rfl | go_simp, fun w hw => by (obtain ⟨n0, rfl⟩ := hw; go_simp; try rfl)⟩) Hb.out ?_
                refine wpAnyH_take (i := 51) (by simp only [List.getElem?_toArray, List.getElem?_cons_succ, List.getElem?_cons_zero]; rfl) (by kernel_rfl) (by kernel_rfl) (by kernel_rfl) (by intro _ _ _ h; exact h) (Or.inl ⟨by first | rfl | go_simp, fun w hw => by (obtain ⟨n0, rfl⟩ := hw; go_simp; try rfl)⟩) Hb.out ?_
                try go_frame
                refine wpAnyH_done (by kernel_rfl) ?_ _
                (obtain ⟨n0, rfl⟩ := Hb.out; go_wp2_with fail; go_roundw; (case rel => exact ⟨k + 1, n0, hkn, by go_num, by (rw [List.take_add_one, List.take_add_one, HK.out.1, HK.out.2.1, HK.out.2.2, Heq.out]), rfl⟩); (case measure => (simp [intOf]; omega)))
              · have q4 : decide (xb = yb) = false := by simp [h3]
                have Hres := Lib.hid (Hdiff.out (fun e => h3 (congrArg (fun z => z.2.2.2) e)))
                clear h0 h1 h2 h3
                refine wpAnyH_take (i := 0) (by simp only [List.getElem?_toArray, List.getElem?_cons_zero]; rfl) (by kernel_rfl) (by kernel_rfl) (by kernel_rfl) (by intro _ _ _ h; exact h) (Or.inl ⟨by first | rfl | go_simp, fun w hw => by (obtain ⟨n0, rfl⟩ := hw; go_simp; try rfl)⟩) Hb.out ?_
                refine wpAnyH_take (i := 1) (by simp only [List.getElem?_toArray, List.getElem?_cons_succ, List.getElem?_cons_zero]; rfl) (by kernel_rfl) (by kernel_rfl) (by kernel_rfl) (by intro _ _ _ h; exact h) (Or.inl ⟨by first | rfl | go_simp, fun w hw => by (obtain ⟨n0, rfl⟩ := hw; go_simp; try rfl)⟩) Hb.out ?_
                try go_frame
                refine wpAnyH_take (i := 2) (by simp only [List.getElem?_toArray, List.getElem?_cons_succ, List.getElem?_cons_zero]; rfl) (by kernel_rfl) (by kernel_rfl) (by kernel_rfl) (by intro _ _ _ h; exact h) (Or.inl ⟨by first | rfl | go_simp, fun w hw => by (obtain ⟨n0, rfl⟩ := hw; go_simp; try rfl)⟩) Hb.out ?_
                refine wpAnyH_take (i := 3) (by simp only [List.getElem?_toArray, List.getElem?_cons_succ, List.getElem?_cons_zero]; rfl) (by kernel_rfl) (by kernel_rfl) (by kernel_rfl) (by intro _ _ _ h; exact h) (Or.inl ⟨by first | rfl | go_simp, fun w hw => by (obtain ⟨n0, rfl⟩ := hw; go_simp; try rfl)⟩) Hb.out ?_
                try go_frame
                refine wpAnyH_take (i := 4) (by simp only [List.getElem?_toArray, List.getElem?_cons_succ, List.getElem?_cons_zero]; rfl) (by kernel_rfl) (by kernel_rfl) (by kernel_rfl) (by intro _ _ _ h; exact h) (Or.inl ⟨by first | rfl | go_simp, fun w hw => by (obtain ⟨n0, rfl⟩ := hw; go_simp; try rfl)⟩) Hb.out ?_
                refine wpAnyH_take (i := 5) (by simp only [List.getElem?_toArray, List.getElem?_cons_succ, List.getElem?_cons_zero]; rfl) (by kernel_rfl) (by kernel_rfl) (by kernel_rfl) (by intro _ _ _ h; exact h) (Or.inl ⟨by first | rfl | go_simp, fun w hw => by (obtain ⟨n0, rfl⟩ := hw; go_simp; try rfl)⟩) Hb.out ?_
                try go_frame
                refine wpAnyH_take (i := 6) (by simp only [List.getElem?_toArray, List.getElem?_cons_succ, List.getElem?_cons_zero]; rfl) (by kernel_rfl) (by kernel_rfl) (by kernel_rfl) (by intro _ _ _ h; exact h) (Or.inl ⟨by first | rfl | go_simp, fun w hw => by (obtain ⟨n0, rfl⟩ := hw; go_simp; try rfl)⟩) Hb.out ?_
                refine wpAnyH_take (i := 7) (by simp only [List.getElem?_toArray, List.getElem?_cons_succ, List.getElem?_cons_zero]; rfl) (by kernel_rfl) (by kernel_rfl) (by kernel_rfl) (by intro _ _ _ h; exact h) (Or.inl ⟨by first | rfl | go_simp, fun w hw => by (obtain ⟨n0, rfl⟩ := hw; go_simp; try rfl)⟩) Hb.out ?_
                try go_frame
                refine wpAnyH_take (i := 8) (by simp only [List.getElem?_toArray, List.getElem?_cons_succ, List.getElem?_cons_zero]; rfl) (by kernel_rfl) (by kernel_rfl) (by kernel_rfl) (by intro _ _ _ h; exact h) (Or.inl ⟨by first | rfl | go_simp, fun w hw => by (obtain ⟨n0, rfl⟩ := hw; go_simp; try rfl)⟩) Hb.out ?_
                refine wpAnyH_take (i := 9) (by simp only [List.getElem?_toArray, List.getElem?_cons_succ, List.getElem?_cons_zero]; rfl) (by kernel_rfl) (by kernel_rfl) (by kernel_rfl) (by intro _ _ _ h; exact h) (Or.inl ⟨by first | rfl | go_simp, fun w hw => by (obtain ⟨n0, rfl⟩ := hw; go_simp; try rfl)⟩) Hb.out ?_
                try go_frame
                refine wpAnyH_take (i := 10) (by simp only [List.getElem?_toArray, List.getElem?_cons_succ, List.getElem?_cons_zero]; rfl) (by kernel_rfl) (by kernel_rfl) (by kernel_rfl) (by intro _ _ _ h; exact h) (Or.inl ⟨by first | rfl | go_simp, fun w hw => by (obtain ⟨n0, rfl⟩ := hw; go_simp; try rfl)⟩) Hb.out ?_
                refine wpAnyH_take (i := 11) (by simp only [List.getElem?_toArray, List.getElem?_cons_succ, List.getElem?_cons_zero]; rfl) (by kernel_rfl) (by kernel_rfl) (by kernel_rfl) (by intro _ _ _ h; exact h) (Or.inl ⟨by first | rfl | go_simp, fun w hw => by (obtain ⟨n0, rfl⟩ := hw; go_simp; try rfl)⟩) Hb.out ?_
                try go_frame
                refine wpAnyH_take (i := 12) (by simp only [List.getElem?_toArray, List.getElem?_cons_succ, List.getElem?_cons_zero]; rfl) (by kernel_rfl) (by kernel_rfl) (by kernel_rfl) (by intro _ _ _ h; exact h) (Or.inl ⟨by first | rfl | go_simp, fun w hw => by (obtain ⟨n0, rfl⟩ := hw; go_simp; try rfl)⟩) Hb.out ?_
                refine wpAnyH_take (i := 13) (by simp only [List.getElem?_toArray, List.getElem?_cons_succ, List.getElem?_cons_zero]; rfl) (by kernel_rfl) (by kernel_rfl) (by kernel_rfl) (by intro _ _ _ h; exact h) (Or.inl ⟨by first | rfl | go_simp, fun w hw => by (obtain ⟨n0, rfl⟩ := hw; go_simp; try rfl)⟩) Hb.out ?_
                try go_frame
                refine wpAnyH_take (i := 14) (by simp only [List.getElem?_toArray, List.getElem?_cons_succ, List.getElem?_cons_zero]; rfl) (by kernel_rfl) (by kernel_rfl) (by kernel_rfl) (by intro _ _ _ h; exact h) (Or.inl ⟨by first | rfl | go_simp, fun w hw => by (obtain ⟨n0, rfl⟩ := hw; go_simp; try rfl)⟩) Hb.out ?_
                refine wpAnyH_take (i := 15) (by simp only [List.getElem?_toArray, List.getElem?_cons_succ, List.getElem?_cons_zero]; rfl) (by kernel_rfl) (by kernel_rfl) (by kernel_rfl) (by intro _ _ _ h; exact h) (Or.inl ⟨by first | rfl | go_simp, fun w hw => by (obtain ⟨n0, rfl⟩ := hw; go_simp; try rfl)⟩) Hb.out ?_
                try go_frame
                refine wpAnyH_take (i := 16) (by simp only [List.getElem?_toArray, List.getElem?_cons_succ, List.getElem?_cons_zero]; rfl) (by kernel_rfl) (by kernel_rfl) (by kernel_rfl) (by intro _ _ _ h; exact h) (Or.inl ⟨by first | rfl | go_simp, fun w hw => by (obtain ⟨n0, rfl⟩ := hw; go_simp; try rfl)⟩) Hb.out ?_
                refine wpAnyH_take (i := 17) (by simp only [List.getElem?_toArray, List.getElem?_cons_succ, List.getElem?_cons_zero]; rfl) (by kernel_rfl) (by kernel_rfl) (by kernel_rfl) (by intro _ _ _ h; exact h) (Or.inl ⟨by first | rfl | go_simp, fun w hw => by (obtain ⟨n0, rfl⟩ := hw; go_simp; try rfl)⟩) Hb.out ?_
                try go_frame
                refine wpAnyH_take (i := 18) (by simp only [List.getElem?_toArray, List.getElem?_cons_succ, List.getElem?_cons_zero]; rfl) (by kernel_rfl) (by kernel_rfl) (by kernel_rfl) (by intro _ _ _ h; exact h) (Or.inl ⟨by first | rfl | go_simp, fun w hw => by (obtain ⟨n0, rfl⟩ := hw; go_simp; try rfl)⟩) Hb.out ?_
                refine wpAnyH_take (i := 19) (by simp only [List.getElem?_toArray, List.getElem?_cons_succ, List.getElem?_cons_zero]; rfl) (by kernel_rfl) (by kernel_rfl) (by kernel_rfl) (by intro _ _ _ h; exact h) (Or.inl ⟨by first | rfl | go_simp, fun w hw => by (obtain ⟨n0, rfl⟩ := hw; go_simp; try rfl)⟩) Hb.out ?_
                try go_frame
                refine wpAnyH_take (i := 20) (by simp only [List.getElem?_toArray, List.getElem?_cons_succ, List.getElem?_cons_zero]; rfl) (by kernel_rfl) (by kernel_rfl) (by kernel_rfl) (by intro _ _ _ h; exact h) (Or.inl ⟨by first | rfl | go_simp, fun w hw => by (obtain ⟨n0, rfl⟩ := hw; go_simp; try rfl)⟩) Hb.out ?_
                refine wpAnyH_take (i := 21) (by simp only [List.getElem?_toArray, List.getElem?_cons_succ, List.getElem?_cons_zero]; rfl) (by kernel_rfl) (by kernel_rfl) (by kernel_rfl) (by intro _ _ _ h; exact h) (Or.inl ⟨by first | rfl | go_simp, fun w hw => by (obtain ⟨n0, rfl⟩ := hw; go_simp; try rfl)⟩) Hb.out ?_
                try go_frame
                refine wpAnyH_take (i := 22) (by simp only [List.getElem?_toArray, List.getElem?_cons_succ, List.getElem?_cons_zero]; rfl) (by kernel_rfl) (by kernel_rfl) (by kernel_rfl) (by intro _ _ _ h; exact h) (Or.inl ⟨by first | rfl | go_simp, fun w hw => by (obtain ⟨n0, rfl⟩ := hw; go_simp; try rfl)⟩) Hb.out ?_
                refine wpAnyH_take (i := 23) (by simp only [List.getElem?_toArray, List.getElem?_cons_succ, List.getElem?_cons_zero]; rfl) (by kernel_rfl) (by kernel_rfl) (by kernel_rfl) (by intro _ _ _ h; exact h) (Or.inl ⟨by first | rfl | go_simp, fun w hw => by (obtain ⟨n0, rfl⟩ := hw; go_simp; try rfl)⟩) Hb.out ?_
                try go_frame
                refine wpAnyH_take (i := 24) (by simp only [List.getElem?_toArray, List.getElem?_cons_succ, List.getElem?_cons_zero]; rfl) (by kernel_rfl) (by kernel_rfl) (by kernel_rfl) (by intro _ _ _ h; exact h) (Or.inl ⟨by first | rfl | go_simp, fun w hw => by (obtain ⟨n0, rfl⟩ := hw; go_simp; try rfl)⟩) Hb.out ?_
                refine wpAnyH_take (i := 25) (by simp only [List.getElem?_toArray, List.getElem?_cons_succ, List.getElem?_cons_zero]; rfl) (by kernel_rfl) (by kernel_rfl) (by kernel_rfl) (by intro _ _ _ h; exact h) (Or.inl ⟨by first | rfl | go_simp, fun w hw => by (obtain ⟨n0, rfl⟩ := hw; go_simp; try rfl)⟩) Hb.out ?_
                try go_frame
                refine wpAnyH_take (i := 26) (by simp only [List.getElem?_toArray, List.getElem?_cons_succ, List.getElem?_cons_zero]; rfl) (by kernel_rfl) (by kernel_rfl) (by kernel_rfl) (by intro _ _ _ h; exact h) (Or.inl ⟨by first | rfl | go_simp, fun w hw => by (obtain ⟨n0, rfl⟩ := hw; go_simp; try rfl)⟩) Hb.out ?_
                refine wpAnyH_take (i := 27) (by simp only [List.getElem?_toArray, List.getElem?_cons_succ, List.getElem?_cons_zero]; rfl) (by kernel_rfl) (by kernel_rfl) (by kernel_rfl) (by intro _ _ _ h; exact h) (Or.inl ⟨by first | rfl | go_simp, fun w hw => by (obtain ⟨n0, rfl⟩ := hw; go_simp; try rfl)⟩) Hb.out ?_
                try go_frame
                refine wpAnyH_take (i := 28) (by simp only [List.getElem?_toArray, List.getElem?_cons_succ, List.getElem?_cons_zero]; rfl) (by kernel_rfl) (by kernel_rfl) (by kernel_rfl) (by intro _ _ _ h; exact h) (Or.inl ⟨by first | rfl | go_simp, fun w hw => by (obtain ⟨n0, rfl⟩ := hw; go_simp; try rfl)⟩) Hb.out ?_
                refine wpAnyH_take (i := 29) (by simp only [List.getElem?_toArray, List.getElem?_cons_succ, List.getElem?_cons_zero]; rfl) (by kernel_rfl) (by kernel_rfl) (by kernel_rfl) (by intro _ _ _ h; exact h) (Or.inl ⟨by first | rfl | go_simp, fun w hw => by (obtain ⟨n0, rfl⟩ := hw; go_simp; try rfl)⟩) Hb.out ?_
                try go_frame
                refine wpAnyH_take (i := 30) (by simp only [List.getElem?_toArray, List.getElem?_cons_succ, List.getElem?_cons_zero]; rfl) (by kernel_rfl) (by kernel_rfl) (by kernel_rfl) (by intro _ _ _ h; exact h) (Or.inl ⟨by first | rfl | go_simp, fun w hw => by (obtain ⟨n0, rfl⟩ := hw; go_simp; try rfl)⟩) Hb.out ?_
                refine wpAnyH_take (i := 31) (by simp only [List.getElem?_toArray, List.getElem?_cons_succ, List.getElem?_cons_zero]; rfl) (by kernel_rfl) (by kernel_rfl) (by kernel_rfl) (by intro _ _ _ h; exact h) (Or.inl ⟨by first | rfl | go_simp, fun w hw => by (obtain ⟨n0, rfl⟩ := hw; go_simp; try rfl)⟩) Hb.out ?_
                try go_frame
                refine wpAnyH_take (i := 32) (by simp only [List.getElem?_toArray, List.getElem?_cons_succ, List.getElem?_cons_zero]; rfl) (by kernel_rfl) (by kernel_rfl) (by kernel_rfl) (by intro _ _ _ h; exact h) (Or.inl ⟨by first | rfl | go_simp, fun w hw => by (obtain ⟨n0, rfl⟩ := hw; go_simp; try rfl)⟩) Hb.out ?_
                refine wpAnyH_take (i := 33) (by simp only [List.getElem?_toArray, List.getElem?_cons_succ, List.getElem?_cons_zero]; rfl) (by kernel_rfl) (by kernel_rfl) (by kernel_rfl) (by intro _ _ _ h; exact h) (Or.inl ⟨by first | rfl | go_simp, fun w hw => by (obtain ⟨n0, rfl⟩ := hw; go_simp; try rfl)⟩) Hb.out ?_
                try go_frame
                refine wpAnyH_take (i := 34) (by simp only [List.getElem?_toArray, List.getElem?_cons_succ, List.getElem?_cons_zero]; rfl) (by kernel_rfl) (by kernel_rfl) (by kernel_rfl) (by intro _ _ _ h; exact h) (Or.inl ⟨by first | rfl | go_simp, fun w hw => by (obtain ⟨n0, rfl⟩ := hw; go_simp; try rfl)⟩) Hb.out ?_
                refine wpAnyH_ready (rs := [35]) (by kernel_rfl) (by simp) ?_
                refine AllReadyH.cons rfl (fun K hK => ?_) AllReadyH.nil
                go_simp
                refine (sameInts14_any _ _ xm ym _ (by obtain ⟨n0, e⟩ := Hb.out; rw [e]; exact SliceIn.later HX.out.1 (below_draws _ _)) (by obtain ⟨n0, e⟩ := Hb.out; rw [e]; exact SliceIn.later HX.out.2.2.1 (below_draws _ _)) HL.out.1 HL.out.2.2.1).mono ?_
                rintro e w1 ⟨rfl, n1, hw1⟩
                dsimp only
                have Hb : Hid (∃ n0, w1 = w.drewN n0) := by obtain ⟨n0, e⟩ := Hb.out; exact ⟨n0 + n1, by rw [hw1, e, World.drewN_drewN]⟩
                refine hK.out _ _ Hb.out (fun _ => ?_)
                clear hK K hw1
                try go_frame
                try go_frame
                refine wpAnyH_take (i := 36) (by simp only [List.getElem?_toArray, List.getElem?_cons_succ, List.getElem?_cons_zero]; rfl) (by kernel_rfl) (by kernel_rfl) (by kernel_rfl) (by intro _ _ _ h; exact h) (Or.inl ⟨by first | rfl | go_simp, fun w hw => by (obtain ⟨n0, rfl⟩ := hw; go_simp; try rfl)⟩) Hb.out ?_
                refine wpAnyH_take (i := 37) (by simp only [List.getElem?_toArray, List.getElem?_cons_succ, List.getElem?_cons_zero]; rfl) (by kernel_rfl) (by kernel_rfl) (by kernel_rfl) (by intro _ _ _ h; exact h) (Or.inl ⟨by first | rfl | go_simp, fun w hw => by (obtain ⟨n0, rfl⟩ := hw; go_simp; try rfl)⟩) Hb.out ?_
                try go_frame
                refine wpAnyH_take (i := 38) (by simp only [List.getElem?_toArray, List.getElem?_cons_succ, List.getElem?_cons_zero]; rfl) (by kernel_rfl) (by kernel_rfl) (by kernel_rfl) (by intro _ _ _ h; exact h) (Or.inl ⟨by first | rfl | go_simp, fun w hw => by (obtain ⟨n0, rfl⟩ := hw; go_simp; try rfl)⟩) Hb.out ?_
                refine wpAnyH_take (i := 39) (by simp only [List.getElem?_toArray, List.getElem?_cons_succ, List.getElem?_cons_zero]; rfl) (by kernel_rfl) (by kernel_rfl) (by kernel_rfl) (by intro _ _ _ h; exact h) (Or.inl ⟨by first | rfl | go_simp, fun w hw => by (obtain ⟨n0, rfl⟩ := hw; go_simp; try rfl)⟩) Hb.out ?_
                try go_frame
                refine wpAnyH_take (i := 40) (by simp only [List.getElem?_toArray, List.getElem?_cons_succ, List.getElem?_cons_zero]; rfl) (by kernel_rfl) (by kernel_rfl) (by kernel_rfl) (by intro _ _ _ h; exact h) (Or.inl ⟨by first | rfl | go_simp, fun w hw => by (obtain ⟨n0, rfl⟩ := hw; go_simp; try rfl)⟩) Hb.out ?_
                refine wpAnyH_take (i := 41) (by simp only [List.getElem?_toArray, List.getElem?_cons_succ, List.getElem?_cons_zero]; rfl) (by kernel_rfl) (by kernel_rfl) (by kernel_rfl) (by intro _ _ _ h; exact h) (Or.inl ⟨by first | rfl | go_simp, fun w hw => by (obtain ⟨n0, rfl⟩ := hw; go_simp; try rfl)⟩) Hb.out ?_
                try go_frame
                refine wpAnyH_take (i := 42) (by simp only [List.getElem?_toArray, List.getElem?_cons_succ, List.getElem?_cons_zero]; rfl) (by kernel_rfl) (by kernel_rfl) (by kernel_rfl) (by intro _ _ _ h; exact h) (Or.inl ⟨by first | rfl | go_simp, fun w hw => by (obtain ⟨n0, rfl⟩ := hw; go_simp; try rfl)⟩) Hb.out ?_
                refine wpAnyH_take (i := 43) (by simp only [List.getElem?_toArray, List.getElem?_cons_succ, List.getElem?_cons_zero]; rfl) (by kernel_rfl) (by kernel_rfl) (by kernel_rfl) (by intro _ _ _ h; exact h) (Or.inl ⟨by first | rfl | go_simp, fun w hw => by (obtain ⟨n0, rfl⟩ := hw; go_simp; try rfl)⟩) Hb.out ?_
                try go_frame
                refine wpAnyH_take (i := 44) (by simp only [List.getElem?_toArray, List.getElem?_cons_succ, List.getElem?_cons_zero]; rfl) (by kernel_rfl) (by kernel_rfl) (by kernel_rfl) (by intro _ _ _ h; exact h) (Or.inl ⟨by first | rfl | go_simp, fun w hw => by (obtain ⟨n0, rfl⟩ := hw; go_simp; try rfl)⟩) Hb.out ?_
                refine wpAnyH_take (i := 45) (by simp only [List.getElem?_toArray, List.getElem?_cons_succ, List.getElem?_cons_zero]; rfl) (by kernel_rfl) (by kernel_rfl) (by kernel_rfl) (by intro _ _ _ h; exact h) (Or.inl ⟨by first | rfl | go_simp, fun w hw => by (obtain ⟨n0, rfl⟩ := hw; go_simp; try rfl)⟩) Hb.out ?_
                try go_frame
                refine wpAnyH_take (i := 46) (by simp only [List.getElem?_toArray, List.getElem?_cons_succ, List.getElem?_cons_zero]; rfl) (by kernel_rfl) (by kernel_rfl) (by kernel_rfl) (by intro _ _ _ h; exact h) (Or.inl ⟨by first | rfl | go_simp, fun w hw => by (obtain ⟨n0, rfl⟩ := hw; go_simp; try rfl)⟩) Hb.out ?_
                refine wpAnyH_take (i := 47) (by simp only [List.getElem?_toArray, List.getElem?_cons_succ, List.getElem?_cons_zero]; rfl) (by kernel_rfl) (by kernel_rfl) (by kernel_rfl) (by intro _ _ _ h; exact h) (Or.inl ⟨by first | rfl | go_simp, fun w hw => by (obtain ⟨n0, rfl⟩ := hw; go_simp; try rfl)⟩) Hb.out ?_
                try go_frame
                refine wpAnyH_take (i := 48) (by simp only [List.getElem?_toArray, List.getElem?_cons_succ, List.getElem?_cons_zero]; rfl) (by kernel_rfl) (by kernel_rfl) (by kernel_rfl) (by intro _ _ _ h; exact h) (Or.inl ⟨by first | rfl | go_simp, fun w hw => by (obtain ⟨n0, rfl⟩ := hw; go_simp; try rfl)⟩) Hb.out ?_
                refine wpAnyH_ready (rs := [49]) (by kernel_rfl) (by simp) ?_
                refine AllReadyH.cons rfl (fun K hK => ?_) AllReadyH.nil
                go_simp
                refine (sameInts14_any _ _ xb yb _ (by obtain ⟨n0, e⟩ := Hb.out; rw [e]; exact SliceIn.later HX.out.2.1 (below_draws _ _)) (by obtain ⟨n0, e⟩ := Hb.out; rw [e]; exact SliceIn.later HX.out.2.2.2 (below_draws _ _)) HL.out.2.1 HL.out.2.2.2).mono ?_
                rintro e w1 ⟨rfl, n1, hw1⟩
                dsimp only
                have Hb : Hid (∃ n0, w1 = w.drewN n0) := by obtain ⟨n0, e⟩ := Hb.out; exact ⟨n0 + n1, by rw [hw1, e, World.drewN_drewN]⟩
                refine hK.out _ _ Hb.out (fun _ => ?_)
                clear hK K hw1
                try go_frame
                try go_frame
                refine wpAnyH_take (i := 50) (by simp only [List.getElem?_toArray, List.getElem?_cons_succ, List.getElem?_cons_zero]; rfl) (by kernel_rfl) (by kernel_rfl) (by kernel_rfl) (by intro _ _ _ h; exact h) (Or.inl ⟨by first | rfl | go_simp, fun w hw => by (obtain ⟨n0, rfl⟩ := hw; go_simp; try rfl)⟩) Hb.out ?_
                refine wpAnyH_take (i := 51) (by simp only [List.getElem?_toArray, List.getElem?_cons_succ, List.getElem?_cons_zero]; rfl) (by kernel_rfl) (by kernel_rfl) (by kernel_rfl) (by intro _ _ _ h; exact h) (Or.inl ⟨by first | rfl | go_simp, fun w hw => by (obtain ⟨n0, rfl⟩ := hw; go_simp; try rfl)⟩) Hb.out ?_
                try go_frame
                refine wpAnyH_done (by kernel_rfl) ?_ _
                (obtain ⟨n0, rfl⟩ := Hb.out; go_wp2_with fail; go_ret; exact ⟨by rw [decide_eq_false Hres.out]; rfl, _, rfl⟩)
            · have q3 : decide (xm = ym) = false := by simp [h2]
              have Hres := Lib.hid (Hdiff.out (fun e => h2 (congrArg (fun z => z.2.2.1) e)))
              clear h0 h1 h2
              refine wpAnyH_take (i := 0) (by simp only [List.getElem?_toArray, List.getElem?_cons_zero]; rfl) (by kernel_rfl) (by kernel_rfl) (by kernel_rfl) (by intro _ _ _ h; exact h) (Or.inl ⟨by first | rfl | go_simp, fun w hw => by (obtain ⟨n0, rfl⟩ := hw; go_simp; try rfl)⟩) Hb.out ?_
              refine wpAnyH_take (i := 1) (by simp only [List.getElem?_toArray, List.getElem?_cons_succ, List.getElem?_cons_zero]; rfl) (by kernel_rfl) (by kernel_rfl) (by kernel_rfl) (by intro _ _ _ h; exact h) (Or.inl ⟨by first | rfl | go_simp, fun w hw => by (obtain ⟨n0, rfl⟩ := hw; go_simp; try rfl)⟩) Hb.out ?_
              try go_frame
              refine wpAnyH_take (i := 2) (by simp only [List.getElem?_toArray, List.getElem?_cons_succ, List.getElem?_cons_zero]; rfl) (by kernel_rfl) (by kernel_rfl) (by kernel_rfl) (by intro _ _ _ h; exact h) (Or.inl ⟨by first | rfl | go_simp, fun w hw => by (obtain ⟨n0, rfl⟩ := hw; go_simp; try rfl)⟩) Hb.out ?_
              refine wpAnyH_take (i := 3) (by simp only [List.getElem?_toArray, List.getElem?_cons_succ, List.getElem?_cons_zero]; rfl) (by kernel_rfl) (by kernel_rfl) (by kernel_rfl) (by intro _ _ _ h; exact h) (Or.inl ⟨by first | rfl | go_simp, fun w hw => by (obtain ⟨n0, rfl⟩ := hw; go_simp; try rfl)⟩) Hb.out ?_
              try go_frame
              refine wpAnyH_take (i := 4) (by simp only [List.getElem?_toArray, List.getElem?_cons_succ, List.getElem?_cons_zero]; rfl) (by kernel_rfl) (by kernel_rfl) (by kernel_rfl) (by intro _ _ _ h; exact h) (Or.inl ⟨by first | rfl | go_simp, fun w hw => by (obtain ⟨n0, rfl⟩ := hw; go_simp; try rfl)⟩) Hb.out ?_
              refine wpAnyH_take (i := 5) (by simp only [List.getElem?_toArray, List.getElem?_cons_succ, List.getElem?_cons_zero]; rfl) (by kernel_rfl) (by kernel_rfl) (by kernel_rfl) (by intro _ _ _ h; exact h) (Or.inl ⟨by first | rfl | go_simp, fun w hw => by (obtain ⟨n0, rfl⟩ := hw; go_simp; try rfl)⟩) Hb.out ?_
              try go_frame
              refine wpAnyH_take (i := 6) (by simp only [List.getElem?_toArray, List.getElem?_cons_succ, List.getElem?_cons_zero]; rfl) (by kernel_rfl) (by kernel_rfl) (by kernel_rfl) (by intro _ _ _ h; exact h) (Or.inl ⟨by first | rfl | go_simp, fun w hw => by (obtain ⟨n0, rfl⟩ := hw; go_simp; try rfl)⟩) Hb.out ?_
              refine wpAnyH_take (i := 7) (by simp only [List.getElem?_toArray, List.getElem?_cons_succ, List.getElem?_cons_zero]; rfl) (by kernel_rfl) (by kernel_rfl) (by kernel_rfl) (by intro _ _ _ h; exact h) (Or.inl ⟨by first | rfl | go_simp, fun w hw => by (obtain ⟨n0, rfl⟩ := hw; go_simp; try rfl)⟩) Hb.out ?_
              try go_frame
              refine wpAnyH_take (i := 8) (by simp only [List.getElem?_toArray, List.getElem?_cons_succ, List.getElem?_cons_zero]; rfl) (by kernel_rfl) (by kernel_rfl) (by kernel_rfl) (by intro _ _ _ h; exact h) (Or.inl ⟨by first | rfl | go_simp, fun w hw => by (obtain ⟨n0, rfl⟩ := hw; go_simp; try rfl)⟩) Hb.out ?_
              refine wpAnyH_take (i := 9) (by simp only [List.getElem?_toArray, List.getElem?_cons_succ, List.getElem?_cons_zero]; rfl) (by kernel_rfl) (by kernel_rfl) (by kernel_rfl) (by intro _ _ _ h; exact h) (Or.inl ⟨by first | rfl | go_simp, fun w hw => by (obtain ⟨n0, rfl⟩ := hw; go_simp; try rfl)⟩) Hb.out ?_
              try go_frame
              refine wpAnyH_take (i := 10) (by simp only [List.getElem?_toArray, List.getElem?_cons_succ, List.getElem?_cons_zero]; rfl) (by kernel_rfl) (by kernel_rfl) (by kernel_rfl) (by intro _ _ _ h; exact h) (Or.inl ⟨by first | rfl | go_simp, fun w hw => by (obtain ⟨n0, rfl⟩ := hw; go_simp; try rfl)⟩) Hb.out ?_
              refine wpAnyH_take (i := 11) (by simp only [List.getElem?_toArray, List.getElem?_cons_succ, List.getElem?_cons_zero]; rfl) (by kernel_rfl) (by kernel_rfl) (by kernel_rfl) (by intro _ _ _ h; exact h) (Or.inl ⟨by first | rfl | go_simp, fun w hw => by (obtain ⟨n0, rfl⟩ := hw; go_simp; try rfl)⟩) Hb.out ?_
              try go_frame
              refine wpAnyH_take (i := 12) (by simp only [List.getElem?_toArray, List.getElem?_cons_succ, List.getElem?_cons_zero]; rfl) (by kernel_rfl) (by kernel_rfl) (by kernel_rfl) (by intro _ _ _ h; exact h) (Or.inl ⟨by first | rfl | go_simp, fun w hw => by (obtain ⟨n0, rfl⟩ := hw; go_simp; try rfl)⟩) Hb.out ?_
              refine wpAnyH_take (i := 13) (by simp only [List.getElem?_toArray, List.getElem?_cons_succ, List.getElem?_cons_zero]; rfl) (by kernel_rfl) (by kernel_rfl) (by kernel_rfl) (by intro _ _ _ h; exact h) (Or.inl ⟨by first | rfl | go_simp, fun w hw => by (obtain ⟨n0, rfl⟩ := hw; go_simp; try rfl)⟩) Hb.out ?_
              try go_frame
              refine wpAnyH_take (i := 14) (by simp only [List.getElem?_toArray, List.getElem?_cons_succ, List.getElem?_cons_zero]; rfl) (by kernel_rfl) (by kernel_rfl) (by kernel_rfl) (by intro _ _ _ h; exact h) (Or.inl ⟨by first | rfl | go_simp, fun w hw => by (obtain ⟨n0, rfl⟩ := hw; go_simp; try rfl)⟩) Hb.out ?_
              refine wpAnyH_take (i := 15) (by simp only [List.getElem?_toArray, List.getElem?_cons_succ, List.getElem?_cons_zero]; rfl) (by kernel_rfl) (by kernel_rfl) (by kernel_rfl) (by intro _ _ _ h; exact h) (Or.inl ⟨by first | rfl | go_simp, fun w hw => by (obtain ⟨n0, rfl⟩ := hw; go_simp; try rfl)⟩) Hb.out ?_
              try go_frame
              refine wpAnyH_take (i := 16) (by simp only [List.getElem?_toArray, List.getElem?_cons_succ, List.getElem?_cons_zero]; rfl) (by kernel_rfl) (by kernel_rfl) (by kernel_rfl) (by intro _ _ _ h; exact h) (Or.inl ⟨by first | rfl | go_simp, fun w hw => by (obtain ⟨n0, rfl⟩ := hw; go_simp; try rfl)⟩) Hb.out ?_
              refine wpAnyH_take (i := 17) (by simp only [List.getElem?_toArray, List.getElem?_cons_succ, List.getElem?_cons_zero]; rfl) (by kernel_rfl) (by kernel_rfl) (by kernel_rfl) (by intro _ _ _ h; exact h) (Or.inl ⟨by first | rfl | go_simp, fun w hw => by (obtain ⟨n0, rfl⟩ := hw; go_simp; try rfl)⟩) Hb.out ?_
              try go_frame
              refine wpAnyH_take (i := 18) (by simp only [List.getElem?_toArray, List.getElem?_cons_succ, List.getElem?_cons_zero]; rfl) (by kernel_rfl) (by kernel_rfl) (by kernel_rfl) (by intro _ _ _ h; exact h) (Or.inl ⟨by first | rfl | go_simp, fun w hw => by (obtain ⟨n0, rfl⟩ := hw; go_simp; try rfl)⟩) Hb.out ?_
              refine wpAnyH_take (i := 19) (by simp only [List.getElem?_toArray, List.getElem?_cons_succ, List.getElem?_cons_zero]; rfl) (by kernel_rfl) (by kernel_rfl) (by kernel_rfl) (by intro _ _ _ h; exact h) (Or.inl ⟨by first | rfl | go_simp, fun w hw => by (obtain ⟨n0, rfl⟩ := hw; go_simp; try rfl)⟩) Hb.out ?_
              try go_frame
              refine wpAnyH_take (i := 20) (by simp only [List.getElem?_toArray, List.getElem?_cons_succ, List.getElem?_cons_zero]; rfl) (by kernel_rfl) (by kernel_rfl) (by kernel_rfl) (by intro _ _ _ h; exact h) (Or.inl ⟨by first | rfl | go_simp, fun w hw => by (obtain ⟨n0, rfl⟩ := hw; go_simp; try rfl)⟩) Hb.out ?_
              refine wpAnyH_take (i := 21) (by simp only [List.getElem?_toArray, List.getElem?_cons_succ, List.getElem?_cons_zero]; rfl) (by kernel_rfl) (by kernel_rfl) (by kernel_rfl) (by intro _ _ _ h; exact h) (Or.inl ⟨by first | rfl | go_simp, fun w hw => by (obtain ⟨n0, rfl⟩ := hw; go_simp; try rfl)⟩) Hb.out ?_
              try go_frame
              refine wpAnyH_take (i := 22) (by simp only [List.getElem?_toArray, List.getElem?_cons_succ, List.getElem?_cons_zero]; rfl) (by kernel_rfl) (by kernel_rfl) (by kernel_rfl) (by intro _ _ _ h; exact h) (Or.inl ⟨by first | rfl | go_simp, fun w hw => by (obtain ⟨n0, rfl⟩ := hw; go_simp; try rfl)⟩) Hb.out ?_
              refine wpAnyH_take (i := 23) (by simp only [List.getElem?_toArray, List.getElem?_cons_succ, List.getElem?_cons_zero]; rfl) (by kernel_rfl) (by kernel_rfl) (by kernel_rfl) (by intro _ _ _ h; exact h) (Or.inl ⟨by first | rfl | go_simp, fun w hw => by (obtain ⟨n0, rfl⟩ := hw; go_simp; try rfl)⟩) Hb.out ?_
              try go_frame
              refine wpAnyH_take (i := 24) (by simp only [List.getElem?_toArray, List.getElem?_cons_succ, List.getElem?_cons_zero]; rfl) (by kernel_rfl) (by kernel_rfl) (by kernel_rfl) (by intro _ _ _ h; exact h) (Or.inl ⟨by first | rfl | go_simp, fun w hw => by (obtain ⟨n0, rfl⟩ := hw; go_simp; try rfl)⟩) Hb.out ?_
              refine wpAnyH_take (i := 25) (by simp only [List.getElem?_toArray, List.getElem?_cons_succ, List.getElem?_cons_zero]; rfl) (by kernel_rfl) (by kernel_rfl) (by kernel_rfl) (by intro _ _ _ h; exact h) (Or.inl ⟨by first | rfl | go_simp, fun w hw => by (obtain ⟨n0, rfl⟩ := hw; go_simp; try rfl)⟩) Hb.out ?_
              try go_frame
              refine wpAnyH_take (i := 26) (by simp only [List.getElem?_toArray, List.getElem?_cons_succ, List.getElem?_cons_zero]; rfl) (by kernel_rfl) (by kernel_rfl) (by kernel_rfl) (by intro _ _ _ h; exact h) (Or.inl ⟨by first | rfl | go_simp, fun w hw => by (obtain ⟨n0, rfl⟩ := hw; go_simp; try rfl)⟩) Hb.out ?_
              refine wpAnyH_take (i := 27) (by simp only [List.getElem?_toArray, List.getElem?_cons_succ, List.getElem?_cons_zero]; rfl) (by kernel_rfl) (by kernel_rfl) (by kernel_rfl) (by intro _ _ _ h; exact h) (Or.inl ⟨by first | rfl | go_simp, fun w hw => by (obtain ⟨n0, rfl⟩ := hw; go_simp; try rfl)⟩) Hb.out ?_
              try go_frame
              refine wpAnyH_take (i := 28) (by simp only [List.getElem?_toArray, List.getElem?_cons_succ, List.getElem?_cons_zero]; rfl) (by kernel_rfl) (by kernel_rfl) (by kernel_rfl) (by intro _ _ _ h; exact h) (Or.inl ⟨by first | rfl | go_simp, fun w hw => by (obtain ⟨n0, rfl⟩ := hw; go_simp; try rfl)⟩) Hb.out ?_
              refine wpAnyH_take (i := 29) (by simp only [List.getElem?_toArray, List.getElem?_cons_succ, List.getElem?_cons_zero]; rfl) (by kernel_rfl) (by kernel_rfl) (by kernel_rfl) (by intro _ _ _ h; exact h) (Or.inl ⟨by first | rfl | go_simp, fun w hw => by (obtain ⟨n0, rfl⟩ := hw; go_simp; try rfl)⟩) Hb.out ?_
              try go_frame
              refine wpAnyH_take (i := 30) (by simp only [List.getElem?_toArray, List.getElem?_cons_succ, List.getElem?_cons_zero]; rfl) (by kernel_rfl) (by kernel_rfl) (by kernel_rfl) (by intro _ _ _ h; exact h) (Or.inl ⟨by first | rfl | go_simp, fun w hw => by (obtain ⟨n0, rfl⟩ := hw; go_simp; try rfl)⟩) Hb.out ?_
              refine wpAnyH_take (i := 31) (by simp only [List.getElem?_toArray, List.getElem?_cons_succ, List.getElem?_cons_zero]; rfl) (by kernel_rfl) (by kernel_rfl) (by kernel_rfl) (by intro _ _ _ h; exact h) (Or.inl ⟨by first | rfl | go_simp, fun w hw => by (obtain ⟨n0, rfl⟩ := hw; go_simp; try rfl)⟩) Hb.out ?_
              try go_frame
              refine wpAnyH_take (i := 32) (by simp only [List.getElem?_toArray, List.getElem?_cons_succ, List.getElem?_cons_zero]; rfl) (by kernel_rfl) (by kernel_rfl) (by kernel_rfl) (by intro _ _ _ h; exact h) (Or.inl ⟨by first | rfl | go_simp, fun w hw => by (obtain ⟨n0, rfl⟩ := hw; go_simp; try rfl)⟩) Hb.out ?_
              refine wpAnyH_take (i := 33) (by simp only [List.getElem?_toArray, List.getElem?_cons_succ, List.getElem?_cons_zero]; rfl) (by kernel_rfl) (by kernel_rfl) (by kernel_rfl) (by intro _ _ _ h; exact h) (Or.inl ⟨by first | rfl | go_simp, fun w hw => by (obtain ⟨n0, rfl⟩ := hw; go_simp; try rfl)⟩) Hb.out ?_
              try go_frame
              refine wpAnyH_take (i := 34) (by simp only [List.getElem?_toArray, List.getElem?_cons_succ, List.getElem?_cons_zero]; rfl) (by kernel_rfl) (by kernel_rfl) (by kernel_rfl) (by intro _ _ _ h; exact h) (Or.inl ⟨by first | rfl | go_simp, fun w hw => by (obtain ⟨n0, rfl⟩ := hw; go_simp; try rfl)⟩) Hb.out ?_
              refine wpAnyH_ready (rs := [35]) (by kernel_rfl) (by simp) ?_
              refine AllReadyH.cons rfl (fun K hK => ?_) AllReadyH.nil
              go_simp
              refine (sameInts14_any _ _ xm ym _ (by obtain ⟨n0, e⟩ := Hb.out; rw [e]; exact SliceIn.later HX.out.1 (below_draws _ _)) (by obtain ⟨n0, e⟩ := Hb.out; rw [e]; exact SliceIn.later HX.out.2.2.1 (below_draws _ _)) HL.out.1 HL.out.2.2.1).mono ?_
              rintro e w1 ⟨rfl, n1, hw1⟩
              dsimp only
              have Hb : Hid (∃ n0, w1 = w.drewN n0) := by obtain ⟨n0, e⟩ := Hb.out; exact ⟨n0 + n1, by rw [hw1, e, World.drewN_drewN]⟩
              refine hK.out _ _ Hb.out (fun _ => ?_)
              clear hK K hw1
              try go_frame
              try go_frame
              refine wpAnyH_take (i := 36) (by simp only [List.getElem?_toArray, List.getElem?_cons_succ, List.getElem?_cons_zero]; rfl) (by kernel_rfl) (by kernel_rfl) (by kernel_rfl) (by intro _ _ _ h; exact h) (Or.inl ⟨by first | rfl | go_simp, fun w hw => by (obtain ⟨n0, rfl⟩ := hw; go_simp; try rfl)⟩) Hb.out ?_
              refine wpAnyH_take (i := 37) (by simp only [List.getElem?_toArray, List.getElem?_cons_succ, List.getElem?_cons_zero]; rfl) (by kernel_rfl) (by kernel_rfl) (by kernel_rfl) (by intro _ _ _ h; exact h) (Or.inl ⟨by first | rfl | go_simp, fun w hw => by (obtain ⟨n0, rfl⟩ := hw; go_simp; try rfl)⟩) Hb.out ?_
              try go_frame
              refine wpAnyH_take (i := 38) (by simp only [List.getElem?_toArray, List.getElem?_cons_succ, List.getElem?_cons_zero]; rfl) (by kernel_rfl) (by kernel_rfl) (by kernel_rfl) (by intro _ _ _ h; exact h) (Or.inl ⟨by first | rfl | go_simp, fun w hw => by (obtain ⟨n0, rfl⟩ := hw; go_simp; try rfl)⟩) Hb.out ?_
              refine wpAnyH_take (i := 39) (by simp only [List.getElem?_toArray, List.getElem?_cons_succ, List.getElem?_cons_zero]; rfl) (by kernel_rfl) (by kernel_rfl) (by kernel_rfl) (by intro _ _ _ h; exact h) (Or.inr ⟨by go_simp, rfl⟩) Hb.out ?_
              try go_frame
              refine wpAnyH_take (i := 40) (by simp only [List.getElem?_toArray, List.getElem?_cons_succ, List.getElem?_cons_zero]; rfl) (by kernel_rfl) (by kernel_rfl) (by kernel_rfl) (by intro _ _ _ h; exact h) (Or.inr ⟨by go_simp, rfl⟩) Hb.out ?_
              refine wpAnyH_take (i := 41) (by simp only [List.getElem?_toArray, List.getElem?_cons_succ, List.getElem?_cons_zero]; rfl) (by kernel_rfl) (by kernel_rfl) (by kernel_rfl) (by intro _ _ _ h; exact h) (Or.inr ⟨by go_simp, rfl⟩) Hb.out ?_
              try go_frame
              refine wpAnyH_take (i := 42) (by simp only [List.getElem?_toArray, List.getElem?_cons_succ, List.getElem?_cons_zero]; rfl) (by kernel_rfl) (by kernel_rfl) (by kernel_rfl) (by intro _ _ _ h; exact h) (Or.inr ⟨by go_simp, rfl⟩) Hb.out ?_
              refine wpAnyH_take (i := 43) (by simp only [List.getElem?_toArray, List.getElem?_cons_succ, List.getElem?_cons_zero]; rfl) (by kernel_rfl) (by kernel_rfl) (by kernel_rfl) (by intro _ _ _ h; exact h) (Or.inr ⟨by go_simp, rfl⟩) Hb.out ?_
              try go_frame
              refine wpAnyH_take (i := 44) (by simp only [List.getElem?_toArray, List.getElem?_cons_succ, List.getElem?_cons_zero]; rfl) (by kernel_rfl) (by kernel_rfl) (by kernel_rfl) (by intro _ _ _ h; exact h) (Or.inr ⟨by go_simp, rfl⟩) Hb.out ?_
              refine wpAnyH_take (i := 45) (by simp only [List.getElem?_toArray, List.getElem?_cons_succ, List.getElem?_cons_zero]; rfl) (by kernel_rfl) (by kernel_rfl) (by kernel_rfl) (by intro _ _ _ h; exact h) (Or.inr ⟨by go_simp, rfl⟩) Hb.out ?_
              try go_frame
              refine wpAnyH_take (i := 46) (by simp only [List.getElem?_toArray, List.getElem?_cons_succ, List.getElem?_cons_zero]; rfl) (by kernel_rfl) (by kernel_rfl) (by kernel_rfl) (by intro _ _ _ h; exact h) (Or.inr ⟨by go_simp, rfl⟩) Hb.out ?_
              refine wpAnyH_take (i := 47) (by simp only [List.getElem?_toArray, List.getElem?_cons_succ, List.getElem?_cons_zero]; rfl) (by kernel_rfl) (by kernel_rfl) (by kernel_rfl) (by intro _ _ _ h; exact h) (Or.inr ⟨by go_simp, rfl⟩) Hb.out ?_
              try go_frame
              refine wpAnyH_take (i := 48) (by simp only [List.getElem?_toArray, List.getElem?_cons_succ, List.getElem?_cons_zero]; rfl) (by kernel_rfl) (by kernel_rfl) (by kernel_rfl) (by intro _ _ _ h; exact h) (Or.inr ⟨by go_simp, rfl⟩) Hb.out ?_
              refine wpAnyH_take (i := 49) (by simp only [List.getElem?_toArray, List.getElem?_cons_succ, List.getElem?_cons_zero]; rfl) (by kernel_rfl) (by kernel_rfl) (by kernel_rfl) (by intro _ _ _ h; exact h) (Or.inr ⟨by go_simp, rfl⟩) Hb.out ?_
              try go_frame
              refine wpAnyH_take (i := 50) (by simp only [List.getElem?_toArray, List.getElem?_cons_succ, List.getElem?_cons_zero]; rfl) (by kernel_rfl) (by kernel_rfl) (by kernel_rfl) (by intro _ _ _ h; exact h) (Or.inr ⟨by go_simp, rfl⟩) Hb.out ?_
              refine wpAnyH_take (i := 51) (by simp only [List.getElem?_toArray, List.getElem?_cons_succ, List.getElem?_cons_zero]; rfl) (by kernel_rfl) (by kernel_rfl) (by kernel_rfl) (by intro _ _ _ h; exact h) (Or.inl ⟨by first | rfl | go_simp, fun w hw => by (obtain ⟨n0, rfl⟩ := hw; go_simp; try rfl)⟩) Hb.out ?_
              try go_frame
              refine wpAnyH_done (by kernel_rfl) ?_ _
              (obtain ⟨n0, rfl⟩ := Hb.out; go_wp2_with fail; go_ret; exact ⟨by rw [decide_eq_false Hres.out]; rfl, _, rfl⟩)
          · have q2 : (xp != yp) = true := by simp [h1]
            have Hres := Lib.hid (Hdiff.out (fun e => h1 (congrArg (fun z => z.2.1) e)))
            clear h0 h1
            refine wpAnyH_take (i := 0) (by simp only [List.getElem?_toArray, List.getElem?_cons_zero]; rfl) (by kernel_rfl) (by kernel_rfl) (by kernel_rfl) (by intro _ _ _ h; exact h) (Or.inl ⟨by first | rfl | go_simp, fun w hw => by (obtain ⟨n0, rfl⟩ := hw; go_simp; try rfl)⟩) Hb.out ?_
            refine wpAnyH_take (i := 1) (by simp only [List.getElem?_toArray, List.getElem?_cons_succ, List.getElem?_cons_zero]; rfl) (by kernel_rfl) (by kernel_rfl) (by kernel_rfl) (by intro _ _ _ h; exact h) (Or.inl ⟨by first | rfl | go_simp, fun w hw => by (obtain ⟨n0, rfl⟩ := hw; go_simp; try rfl)⟩) Hb.out ?_
            try go_frame
            refine wpAnyH_take (i := 2) (by simp only [List.getElem?_toArray, List.getElem?_cons_succ, List.getElem?_cons_zero]; rfl) (by kernel_rfl) (by kernel_rfl) (by kernel_rfl) (by intro _ _ _ h; exact h) (Or.inl ⟨by first | rfl | go_simp, fun w hw => by (obtain ⟨n0, rfl⟩ := hw; go_simp; try rfl)⟩) Hb.out ?_
            refine wpAnyH_take (i := 3) (by simp only [List.getElem?_toArray, List.getElem?_cons_succ, List.getElem?_cons_zero]; rfl) (by kernel_rfl) (by kernel_rfl) (by kernel_rfl) (by intro _ _ _ h; exact h) (Or.inl ⟨by first | rfl | go_simp, fun w hw => by (obtain ⟨n0, rfl⟩ := hw; go_simp; try rfl)⟩) Hb.out ?_
            try go_frame
            refine wpAnyH_take (i := 4) (by simp only [List.getElem?_toArray, List.getElem?_cons_succ, List.getElem?_cons_zero]; rfl) (by kernel_rfl) (by kernel_rfl) (by kernel_rfl) (by intro _ _ _ h; exact h) (Or.inl ⟨by first | rfl | go_simp, fun w hw => by (obtain ⟨n0, rfl⟩ := hw; go_simp; try rfl)⟩) Hb.out ?_
            refine wpAnyH_take (i := 5) (by simp only [List.getElem?_toArray, List.getElem?_cons_succ, List.getElem?_cons_zero]; rfl) (by kernel_rfl) (by kernel_rfl) (by kernel_rfl) (by intro _ _ _ h; exact h) (Or.inl ⟨by first | rfl | go_simp, fun w hw => by (obtain ⟨n0, rfl⟩ := hw; go_simp; try rfl)⟩) Hb.out ?_
            try go_frame
            refine wpAnyH_take (i := 6) (by simp only [List.getElem?_toArray, List.getElem?_cons_succ, List.getElem?_cons_zero]; rfl) (by kernel_rfl) (by kernel_rfl) (by kernel_rfl) (by intro _ _ _ h; exact h) (Or.inl ⟨by first | rfl | go_simp, fun w hw => by (obtain ⟨n0, rfl⟩ := hw; go_simp; try rfl)⟩) Hb.out ?_
            refine wpAnyH_take (i := 7) (by simp only [List.getElem?_toArray, List.getElem?_cons_succ, List.getElem?_cons_zero]; rfl) (by kernel_rfl) (by kernel_rfl) (by kernel_rfl) (by intro _ _ _ h; exact h) (Or.inl ⟨by first | rfl | go_simp, fun w hw => by (obtain ⟨n0, rfl⟩ := hw; go_simp; try rfl)⟩) Hb.out ?_
            try go_frame
            refine wpAnyH_take (i := 8) (by simp only [List.getElem?_toArray, List.getElem?_cons_succ, List.getElem?_cons_zero]; rfl) (by kernel_rfl) (by kernel_rfl) (by kernel_rfl) (by intro _ _ _ h; exact h) (Or.inl ⟨by first | rfl | go_simp, fun w hw => by (obtain ⟨n0, rfl⟩ := hw; go_simp; try rfl)⟩) Hb.out ?_
            refine wpAnyH_take (i := 9) (by simp only [List.getElem?_toArray, List.getElem?_cons_succ, List.getElem?_cons_zero]; rfl) (by kernel_rfl) (by kernel_rfl) (by kernel_rfl) (by intro _ _ _ h; exact h) (Or.inl ⟨by first | rfl | go_simp, fun w hw => by (obtain ⟨n0, rfl⟩ := hw; go_simp; try rfl)⟩) Hb.out ?_
            try go_frame
            refine wpAnyH_take (i := 10) (by simp only [List.getElem?_toArray, List.getElem?_cons_succ, List.getElem?_cons_zero]; rfl) (by kernel_rfl) (by kernel_rfl) (by kernel_rfl) (by intro _ _ _ h; exact h) (Or.inl ⟨by first | rfl | go_simp, fun w hw => by (obtain ⟨n0, rfl⟩ := hw; go_simp; try rfl)⟩) Hb.out ?_
            refine wpAnyH_take (i := 11) (by simp only [List.getElem?_toArray, List.getElem?_cons_succ, List.getElem?_cons_zero]; rfl) (by kernel_rfl) (by kernel_rfl) (by kernel_rfl) (by intro _ _ _ h; exact h) (Or.inl ⟨by first | rfl | go_simp, fun w hw => by (obtain ⟨n0, rfl⟩ := hw; go_simp; try rfl)⟩) Hb.out ?_
            try go_frame
            refine wpAnyH_take (i := 12) (by simp only [List.getElem?_toArray, List.getElem?_cons_succ, List.getElem?_cons_zero]; rfl) (by kernel_rfl) (by kernel_rfl) (by kernel_rfl) (by intro _ _ _ h; exact h) (Or.inl ⟨by first | rfl | go_simp, fun w hw => by (obtain ⟨n0, rfl⟩ := hw; go_simp; try rfl)⟩) Hb.out ?_
            refine wpAnyH_take (i := 13) (by simp only [List.getElem?_toArray, List.getElem?_cons_succ, List.getElem?_cons_zero]; rfl) (by kernel_rfl) (by kernel_rfl) (by kernel_rfl) (by intro _ _ _ h; exact h) (Or.inl ⟨by first | rfl | go_simp, fun w hw => by (obtain ⟨n0, rfl⟩ := hw; go_simp; try rfl)⟩) Hb.out ?_
            try go_frame
            refine wpAnyH_take (i := 14) (by simp only [List.getElem?_toArray, List.getElem?_cons_succ, List.getElem?_cons_zero]; rfl) (by kernel_rfl) (by kernel_rfl) (by kernel_rfl) (by intro _ _ _ h; exact h) (Or.inl ⟨by first | rfl | go_simp, fun w hw => by (obtain ⟨n0, rfl⟩ := hw; go_simp; try rfl)⟩) Hb.out ?_
            refine wpAnyH_take (i := 15) (by simp only [List.getElem?_toArray, List.getElem?_cons_succ, List.getElem?_cons_zero]; rfl) (by kernel_rfl) (by kernel_rfl) (by kernel_rfl) (by intro _ _ _ h; exact h) (Or.inl ⟨by first | rfl | go_simp, fun w hw => by (obtain ⟨n0, rfl⟩ := hw; go_simp; try rfl)⟩) Hb.out ?_
            try go_frame
            refine wpAnyH_take (i := 16) (by simp only [List.getElem?_toArray, List.getElem?_cons_succ, List.getElem?_cons_zero]; rfl) (by kernel_rfl) (by kernel_rfl) (by kernel_rfl) (by intro _ _ _ h; exact h) (Or.inl ⟨by first | rfl | go_simp, fun w hw => by (obtain ⟨n0, rfl⟩ := hw; go_simp; try rfl)⟩) Hb.out ?_
            refine wpAnyH_take (i := 17) (by simp only [List.getElem?_toArray, List.getElem?_cons_succ, List.getElem?_cons_zero]; rfl) (by kernel_rfl) (by kernel_rfl) (by kernel_rfl) (by intro _ _ _ h; exact h) (Or.inl ⟨by first | rfl | go_simp, fun w hw => by (obtain ⟨n0, rfl⟩ := hw; go_simp; try rfl)⟩) Hb.out ?_
            try go_frame
            refine wpAnyH_take (i := 18) (by simp only [List.getElem?_toArray, List.getElem?_cons_succ, List.getElem?_cons_zero]; rfl) (by kernel_rfl) (by kernel_rfl) (by kernel_rfl) (by intro _ _ _ h; exact h) (Or.inl ⟨by first | rfl | go_simp, fun w hw => by (obtain ⟨n0, rfl⟩ := hw; go_simp; try rfl)⟩) Hb.out ?_
            refine wpAnyH_take (i := 19) (by simp only [List.getElem?_toArray, List.getElem?_cons_succ, List.getElem?_cons_zero]; rfl) (by kernel_rfl) (by kernel_rfl) (by kernel_rfl) (by intro _ _ _ h; exact h) (Or.inl ⟨by first | rfl | go_simp, fun w hw => by (obtain ⟨n0, rfl⟩ := hw; go_simp; try rfl)⟩) Hb.out ?_
            try go_frame
            refine wpAnyH_take (i := 20) (by simp only [List.getElem?_toArray, List.getElem?_cons_succ, List.getElem?_cons_zero]; rfl) (by kernel_rfl) (by kernel_rfl) (by kernel_rfl) (by intro _ _ _ h; exact h) (Or.inl ⟨by first | rfl | go_simp, fun w hw => by (obtain ⟨n0, rfl⟩ := hw; go_simp; try rfl)⟩) Hb.out ?_
            refine wpAnyH_take (i := 21) (by simp only [List.getElem?_toArray, List.getElem?_cons_succ, List.getElem?_cons_zero]; rfl) (by kernel_rfl) (by kernel_rfl) (by kernel_rfl) (by intro _ _ _ h; exact h) (Or.inl ⟨by first | rfl | go_simp, fun w hw => by (obtain ⟨n0, rfl⟩ := hw; go_simp; try rfl)⟩) Hb.out ?_
            try go_frame
            refine wpAnyH_take (i := 22) (by simp only [List.getElem?_toArray, List.getElem?_cons_succ, List.getElem?_cons_zero]; rfl) (by kernel_rfl) (by kernel_rfl) (by kernel_rfl) (by intro _ _ _ h; exact h) (Or.inl ⟨by first | rfl | go_simp, fun w hw => by (obtain ⟨n0, rfl⟩ := hw; go_simp; try rfl)⟩) Hb.out ?_
            refine wpAnyH_take (i := 23) (by simp only [List.getElem?_toArray, List.getElem?_cons_succ, List.getElem?_cons_zero]; rfl) (by kernel_rfl) (by kernel_rfl) (by kernel_rfl) (by intro _ _ _ h; exact h) (Or.inl ⟨by first | rfl | go_simp, fun w hw => by (obtain ⟨n0, rfl⟩ := hw; go_simp; try rfl)⟩) Hb.out ?_
            try go_frame
            refine wpAnyH_take (i := 24) (by simp only [List.getElem?_toArray, List.getElem?_cons_succ, List.getElem?_cons_zero]; rfl) (by kernel_rfl) (by kernel_rfl) (by kernel_rfl) (by intro _ _ _ h; exact h) (Or.inl ⟨by first | rfl | go_simp, fun w hw => by (obtain ⟨n0, rfl⟩ := hw; go_simp; try rfl)⟩) Hb.out ?_
            refine wpAnyH_take (i := 25) (by simp only [List.getElem?_toArray, List.getElem?_cons_succ, List.getElem?_cons_zero]; rfl) (by kernel_rfl) (by kernel_rfl) (by kernel_rfl) (by intro _ _ _ h; exact h) (Or.inr ⟨by go_simp, rfl⟩) Hb.out ?_
            try go_frame
            refine wpAnyH_take (i := 26) (by simp only [List.getElem?_toArray, List.getElem?_cons_succ, List.getElem?_cons_zero]; rfl) (by kernel_rfl) (by kernel_rfl) (by kernel_rfl) (by intro _ _ _ h; exact h) (Or.inr ⟨by go_simp, rfl⟩) Hb.out ?_
            refine wpAnyH_take (i := 27) (by simp only [List.getElem?_toArray, List.getElem?_cons_succ, List.getElem?_cons_zero]; rfl) (by kernel_rfl) (by kernel_rfl) (by kernel_rfl) (by intro _ _ _ h; exact h) (Or.inr ⟨by go_simp, rfl⟩) Hb.out ?_
            try go_frame
            refine wpAnyH_take (i := 28) (by simp only [List.getElem?_toArray, List.getElem?_cons_succ, List.getElem?_cons_zero]; rfl) (by kernel_rfl) (by kernel_rfl) (by kernel_rfl) (by intro _ _ _ h; exact h) (Or.inr ⟨by go_simp, rfl⟩) Hb.out ?_
            refine wpAnyH_take (i := 29) (by simp only [List.getElem?_toArray, List.getElem?_cons_succ, List.getElem?_cons_zero]; rfl) (by kernel_rfl) (by kernel_rfl) (by kernel_rfl) (by intro _ _ _ h; exact h) (Or.inr ⟨by go_simp, rfl⟩) Hb.out ?_
            try go_frame
            refine wpAnyH_take (i := 30) (by simp only [List.getElem?_toArray, List.getElem?_cons_succ, List.getElem?_cons_zero]; rfl) (by kernel_rfl) (by kernel_rfl) (by kernel_rfl) (by intro _ _ _ h; exact h) (Or.inr ⟨by go_simp, rfl⟩) Hb.out ?_
            refine wpAnyH_take (i := 31) (by simp only [List.getElem?_toArray, List.getElem?_cons_succ, List.getElem?_cons_zero]; rfl) (by kernel_rfl) (by kernel_rfl) (by kernel_rfl) (by intro _ _ _ h; exact h) (Or.inr ⟨by go_simp, rfl⟩) Hb.out ?_
            try go_frame
            refine wpAnyH_take (i := 32) (by simp only [List.getElem?_toArray, List.getElem?_cons_succ, List.getElem?_cons_zero]; rfl) (by kernel_rfl) (by kernel_rfl) (by kernel_rfl) (by intro _ _ _ h; exact h) (Or.inr ⟨by go_simp, rfl⟩) Hb.out ?_
            refine wpAnyH_take (i := 33) (by simp only [List.getElem?_toArray, List.getElem?_cons_succ, List.getElem?_cons_zero]; rfl) (by kernel_rfl) (by kernel_rfl) (by kernel_rfl) (by intro _ _ _ h; exact h) (Or.inr ⟨by go_simp, rfl⟩) Hb.out ?_
            try go_frame
            refine wpAnyH_take (i := 34) (by simp only [List.getElem?_toArray, List.getElem?_cons_succ, List.getElem?_cons_zero]; rfl) (by kernel_rfl) (by kernel_rfl) (by kernel_rfl) (by intro _ _ _ h; exact h) (Or.inr ⟨by go_simp, rfl⟩) Hb.out ?_
            refine wpAnyH_take (i := 35) (by simp only [List.getElem?_toArray, List.getElem?_cons_succ, List.getElem?_cons_zero]; rfl) (by kernel_rfl) (by kernel_rfl) (by kernel_rfl) (by intro _ _ _ h; exact h) (Or.inr ⟨by go_simp, rfl⟩) Hb.out ?_
            try go_frame
            refine wpAnyH_take (i := 36) (by simp only [List.getElem?_toArray, List.getElem?_cons_succ, List.getElem?_cons_zero]; rfl) (by kernel_rfl) (by kernel_rfl) (by kernel_rfl) (by intro _ _ _ h; exact h) (Or.inr ⟨by go_simp, rfl⟩) Hb.out ?_
            refine wpAnyH_take (i := 37) (by simp only [List.getElem?_toArray, List.getElem?_cons_succ, List.getElem?_cons_zero]; rfl) (by kernel_rfl) (by kernel_rfl) (by kernel_rfl) (by intro _ _ _ h; exact h) (Or.inl ⟨by first | rfl | go_simp, fun w hw => by (obtain ⟨n0, rfl⟩ := hw; go_simp; try rfl)⟩) Hb.out ?_
            try go_frame
            refine wpAnyH_take (i := 38) (by simp only [List.getElem?_toArray, List.getElem?_cons_succ, List.getElem?_cons_zero]; rfl) (by kernel_rfl) (by kernel_rfl) (by kernel_rfl) (by intro _ _ _ h; exact h) (Or.inl ⟨by first | rfl | go_simp, fun w hw => by (obtain ⟨n0, rfl⟩ := hw; go_simp; try rfl)⟩) Hb.out ?_
            refine wpAnyH_take (i := 39) (by simp only [List.getElem?_toArray, List.getElem?_cons_succ, List.getElem?_cons_zero]; rfl) (by kernel_rfl) (by kernel_rfl) (by kernel_rfl) (by intro _ _ _ h; exact h) (Or.inr ⟨by go_simp, rfl⟩) Hb.out ?_
            try go_frame
            refine wpAnyH_take (i := 40) (by simp only [List.getElem?_toArray, List.getElem?_cons_succ, List.getElem?_cons_zero]; rfl) (by kernel_rfl) (by kernel_rfl) (by kernel_rfl) (by intro _ _ _ h; exact h) (Or.inr ⟨by go_simp, rfl⟩) Hb.out ?_
            refine wpAnyH_take (i := 41) (by simp only [List.getElem?_toArray, List.getElem?_cons_succ, List.getElem?_cons_zero]; rfl) (by kernel_rfl) (by kernel_rfl) (by kernel_rfl) (by intro _ _ _ h; exact h) (Or.inr ⟨by go_simp, rfl⟩) Hb.out ?_
            try go_frame
            refine wpAnyH_take (i := 42) (by simp only [List.getElem?_toArray, List.getElem?_cons_succ, List.getElem?_cons_zero]; rfl) (by kernel_rfl) (by kernel_rfl) (by kernel_rfl) (by intro _ _ _ h; exact h) (Or.inr ⟨by go_simp, rfl⟩) Hb.out ?_
            refine wpAnyH_take (i := 43) (by simp only [List.getElem?_toArray, List.getElem?_cons_succ, List.getElem?_cons_zero]; rfl) (by kernel_rfl) (by kernel_rfl) (by kernel_rfl) (by intro _ _ _ h; exact h) (Or.inr ⟨by go_simp, rfl⟩) Hb.out ?_
            try go_frame
            refine wpAnyH_take (i := 44) (by simp only [List.getElem?_toArray, List.getElem?_cons_succ, List.getElem?_cons_zero]; rfl) (by kernel_rfl) (by kernel_rfl) (by kernel_rfl) (by intro _ _ _ h; exact h) (Or.inr ⟨by go_simp, rfl⟩) Hb.out ?_
            refine wpAnyH_take (i := 45) (by simp only [List.getElem?_toArray, List.getElem?_cons_succ, List.getElem?_cons_zero]; rfl) (by kernel_rfl) (by kernel_rfl) (by kernel_rfl) (by intro _ _ _ h; exact h) (Or.inr ⟨by go_simp, rfl⟩) Hb.out ?_
            try go_frame
            refine wpAnyH_take (i := 46) (by simp only [List.getElem?_toArray, List.getElem?_cons_succ, List.getElem?_cons_zero]; rfl) (by kernel_rfl) (by kernel_rfl) (by kernel_rfl) (by intro _ _ _ h; exact h) (Or.inr ⟨by go_simp, rfl⟩) Hb.out ?_
            refine wpAnyH_take (i := 47) (by simp only [List.getElem?_toArray, List.getElem?_cons_succ, List.getElem?_cons_zero]; rfl) (by kernel_rfl) (by kernel_rfl) (by kernel_rfl) (by intro _ _ _ h; exact h) (Or.inr ⟨by go_simp, rfl⟩) Hb.out ?_
            try go_frame
            refine wpAnyH_take (i := 48) (by simp only [List.getElem?_toArray, List.getElem?_cons_succ, List.getElem?_cons_zero]; rfl) (by kernel_rfl) (by kernel_rfl) (by kernel_rfl) (by intro _ _ _ h; exact h) (Or.inr ⟨by go_simp, rfl⟩) Hb.out ?_
            refine wpAnyH_take (i := 49) (by simp only [List.getElem?_toArray, List.getElem?_cons_succ, List.getElem?_cons_zero]; rfl) (by kernel_rfl) (by kernel_rfl) (by kernel_rfl) (by intro _ _ _ h; exact h) (Or.inr ⟨by go_simp, rfl⟩) Hb.out ?_
            try go_frame
            refine wpAnyH_take (i := 50) (by simp only [List.getElem?_toArray, List.getElem?_cons_succ, List.getElem?_cons_zero]; rfl) (by kernel_rfl) (by kernel_rfl) (by kernel_rfl) (by intro _ _ _ h; exact h) (Or.inr ⟨by go_simp, rfl⟩) Hb.out ?_
            refine wpAnyH_take (i := 51) (by simp only [List.getElem?_toArray, List.getElem?_cons_succ, List.getElem?_cons_zero]; rfl) (by kernel_rfl) (by kernel_rfl) (by kernel_rfl) (by intro _ _ _ h; exact h) (Or.inl ⟨by first | rfl | go_simp, fun w hw => by (obtain ⟨n0, rfl⟩ := hw; go_simp; try rfl)⟩) Hb.out ?_
            try go_frame
            refine wpAnyH_done (by kernel_rfl) ?_ _
            (obtain ⟨n0, rfl⟩ := Hb.out; go_wp2_with fail; go_ret; exact ⟨by rw [decide_eq_false Hres.out]; rfl, _, rfl⟩)
        · have q1 : (xh != yh) = true := by simp [h0]
          have Hres := Lib.hid (Hdiff.out (fun e => h0 (congrArg Prod.fst e)))
          clear h0
          refine wpAnyH_take (i := 0) (by simp only [List.getElem?_toArray, List.getElem?_cons_zero]; rfl) (by kernel_rfl) (by kernel_rfl) (by kernel_rfl) (by intro _ _ _ h; exact h) (Or.inl ⟨by first | rfl | go_simp, fun w hw => by (obtain ⟨n0, rfl⟩ := hw; go_simp; try rfl)⟩) Hb.out ?_
          refine wpAnyH_take (i := 1) (by simp only [List.getElem?_toArray, List.getElem?_cons_succ, List.getElem?_cons_zero]; rfl) (by kernel_rfl) (by kernel_rfl) (by kernel_rfl) (by intro _ _ _ h; exact h) (Or.inl ⟨by first | rfl | go_simp, fun w hw => by (obtain ⟨n0, rfl⟩ := hw; go_simp; try rfl)⟩) Hb.out ?_
          try go_frame
          refine wpAnyH_take (i := 2) (by simp only [List.getElem?_toArray, List.getElem?_cons_succ, List.getElem?_cons_zero]; rfl) (by kernel_rfl) (by kernel_rfl) (by kernel_rfl) (by intro _ _ _ h; exact h) (Or.inl ⟨by first | rfl | go_simp, fun w hw => by (obtain ⟨n0, rfl⟩ := hw; go_simp; try rfl)⟩) Hb.out ?_
          refine wpAnyH_take (i := 3) (by simp only [List.getElem?_toArray, List.getElem?_cons_succ, List.getElem?_cons_zero]; rfl) (by kernel_rfl) (by kernel_rfl) (by kernel_rfl) (by intro _ _ _ h; exact h) (Or.inl ⟨by first | rfl | go_simp, fun w hw => by (obtain ⟨n0, rfl⟩ := hw; go_simp; try rfl)⟩) Hb.out ?_
          try go_frame
          refine wpAnyH_take (i := 4) (by simp only [List.getElem?_toArray, List.getElem?_cons_succ, List.getElem?_cons_zero]; rfl) (by kernel_rfl) (by kernel_rfl) (by kernel_rfl) (by intro _ _ _ h; exact h) (Or.inl ⟨by first | rfl | go_simp, fun w hw => by (obtain ⟨n0, rfl⟩ := hw; go_simp; try rfl)⟩) Hb.out ?_
          refine wpAnyH_take (i := 5) (by simp only [List.getElem?_toArray, List.getElem?_cons_succ, List.getElem?_cons_zero]; rfl) (by kernel_rfl) (by kernel_rfl) (by kernel_rfl) (by intro _ _ _ h; exact h) (Or.inl ⟨by first | rfl | go_simp, fun w hw => by (obtain ⟨n0, rfl⟩ := hw; go_simp; try rfl)⟩) Hb.out ?_
          try go_frame
          refine wpAnyH_take (i := 6) (by simp only [List.getElem?_toArray, List.getElem?_cons_succ, List.getElem?_cons_zero]; rfl) (by kernel_rfl) (by kernel_rfl) (by kernel_rfl) (by intro _ _ _ h; exact h) (Or.inl ⟨by first | rfl | go_simp, fun w hw => by (obtain ⟨n0, rfl⟩ := hw; go_simp; try rfl)⟩) Hb.out ?_
          refine wpAnyH_take (i := 7) (by simp only [List.getElem?_toArray, List.getElem?_cons_succ, List.getElem?_cons_zero]; rfl) (by kernel_rfl) (by kernel_rfl) (by kernel_rfl) (by intro _ _ _ h; exact h) (Or.inl ⟨by first | rfl | go_simp, fun w hw => by (obtain ⟨n0, rfl⟩ := hw; go_simp; try rfl)⟩) Hb.out ?_
          try go_frame
          refine wpAnyH_take (i := 8) (by simp only [List.getElem?_toArray, List.getElem?_cons_succ, List.getElem?_cons_zero]; rfl) (by kernel_rfl) (by kernel_rfl) (by kernel_rfl) (by intro _ _ _ h; exact h) (Or.inl ⟨by first | rfl | go_simp, fun w hw => by (obtain ⟨n0, rfl⟩ := hw; go_simp; try rfl)⟩) Hb.out ?_
          refine wpAnyH_take (i := 9) (by simp only [List.getElem?_toArray, List.getElem?_cons_succ, List.getElem?_cons_zero]; rfl) (by kernel_rfl) (by kernel_rfl) (by kernel_rfl) (by intro _ _ _ h; exact h) (Or.inl ⟨by first | rfl | go_simp, fun w hw => by (obtain ⟨n0, rfl⟩ := hw; go_simp; try rfl)⟩) Hb.out ?_
          try go_frame
          refine wpAnyH_take (i := 10) (by simp only [List.getElem?_toArray, List.getElem?_cons_succ, List.getElem?_cons_zero]; rfl) (by kernel_rfl) (by kernel_rfl) (by kernel_rfl) (by intro _ _ _ h; exact h) (Or.inl ⟨by first | rfl | go_simp, fun w hw => by (obtain ⟨n0, rfl⟩ := hw; go_simp; try rfl)⟩) Hb.out ?_
          refine wpAnyH_take (i := 11) (by simp only [List.getElem?_toArray, List.getElem?_cons_succ, List.getElem?_cons_zero]; rfl) (by kernel_rfl) (by kernel_rfl) (by kernel_rfl) (by intro _ _ _ h; exact h) (Or.inl ⟨by first | rfl | go_simp, fun w hw => by (obtain ⟨n0, rfl⟩ := hw; go_simp; try rfl)⟩) Hb.out ?_
          try go_frame
          refine wpAnyH_take (i := 12) (by simp only [List.getElem?_toArray, List.getElem?_cons_succ, List.getElem?_cons_zero]; rfl) (by kernel_rfl) (by kernel_rfl) (by kernel_rfl) (by intro _ _ _ h; exact h) (Or.inr ⟨by go_simp, rfl⟩) Hb.out ?_
          refine wpAnyH_take (i := 13) (by simp only [List.getElem?_toArray, List.getElem?_cons_succ, List.getElem?_cons_zero]; rfl) (by kernel_rfl) (by kernel_rfl) (by kernel_rfl) (by intro _ _ _ h; exact h) (Or.inr ⟨by go_simp, rfl⟩) Hb.out ?_
          try go_frame
          refine wpAnyH_take (i := 14) (by simp only [List.getElem?_toArray, List.getElem?_cons_succ, List.getElem?_cons_zero]; rfl) (by kernel_rfl) (by kernel_rfl) (by kernel_rfl) (by intro _ _ _ h; exact h) (Or.inr ⟨by go_simp, rfl⟩) Hb.out ?_
          refine wpAnyH_take (i := 15) (by simp only [List.getElem?_toArray, List.getElem?_cons_succ, List.getElem?_cons_zero]; rfl) (by kernel_rfl) (by kernel_rfl) (by kernel_rfl) (by intro _ _ _ h; exact h) (Or.inr ⟨by go_simp, rfl⟩) Hb.out ?_
          try go_frame
          refine wpAnyH_take (i := 16) (by simp only [List.getElem?_toArray, List.getElem?_cons_succ, List.getElem?_cons_zero]; rfl) (by kernel_rfl) (by kernel_rfl) (by kernel_rfl) (by intro _ _ _ h; exact h) (Or.inr ⟨by go_simp, rfl⟩) Hb.out ?_
          refine wpAnyH_take (i := 17) (by simp only [List.getElem?_toArray, List.getElem?_cons_succ, List.getElem?_cons_zero]; rfl) (by kernel_rfl) (by kernel_rfl) (by kernel_rfl) (by intro _ _ _ h; exact h) (Or.inr ⟨by go_simp, rfl⟩) Hb.out ?_
          try go_frame
          refine wpAnyH_take (i := 18) (by simp only [List.getElem?_toArray, List.getElem?_cons_succ, List.getElem?_cons_zero]; rfl) (by kernel_rfl) (by kernel_rfl) (by kernel_rfl) (by intro _ _ _ h; exact h) (Or.inr ⟨by go_simp, rfl⟩) Hb.out ?_
          refine wpAnyH_take (i := 19) (by simp only [List.getElem?_toArray, List.getElem?_cons_succ, List.getElem?_cons_zero]; rfl) (by kernel_rfl) (by kernel_rfl) (by kernel_rfl) (by intro _ _ _ h; exact h) (Or.inr ⟨by go_simp, rfl⟩) Hb.out ?_
          try go_frame
          refine wpAnyH_take (i := 20) (by simp only [List.getElem?_toArray, List.getElem?_cons_succ, List.getElem?_cons_zero]; rfl) (by kernel_rfl) (by kernel_rfl) (by kernel_rfl) (by intro _ _ _ h; exact h) (Or.inr ⟨by go_simp, rfl⟩) Hb.out ?_
          refine wpAnyH_take (i := 21) (by simp only [List.getElem?_toArray, List.getElem?_cons_succ, List.getElem?_cons_zero]; rfl) (by kernel_rfl) (by kernel_rfl) (by kernel_rfl) (by intro _ _ _ h; exact h) (Or.inr ⟨by go_simp, rfl⟩) Hb.out ?_
          try go_frame
          refine wpAnyH_take (i := 22) (by simp only [List.getElem?_toArray, List.getElem?_cons_succ, List.getElem?_cons_zero]; rfl) (by kernel_rfl) (by kernel_rfl) (by kernel_rfl) (by intro _ _ _ h; exact h) (Or.inr ⟨by go_simp, rfl⟩) Hb.out ?_
          refine wpAnyH_take (i := 23) (by simp only [List.getElem?_toArray, List.getElem?_cons_succ, List.getElem?_cons_zero]; rfl) (by kernel_rfl) (by kernel_rfl) (by kernel_rfl) (by intro _ _ _ h; exact h) (Or.inl ⟨by first | rfl | go_simp, fun w hw => by (obtain ⟨n0, rfl⟩ := hw; go_simp; try rfl)⟩) Hb.out ?_
          try go_frame
          refine wpAnyH_take (i := 24) (by simp only [List.getElem?_toArray, List.getElem?_cons_succ, List.getElem?_cons_zero]; rfl) (by kernel_rfl) (by kernel_rfl) (by kernel_rfl) (by intro _ _ _ h; exact h) (Or.inl ⟨by first | rfl | go_simp, fun w hw => by (obtain ⟨n0, rfl⟩ := hw; go_simp; try rfl)⟩) Hb.out ?_
          refine wpAnyH_take (i := 25) (by simp only [List.getElem?_toArray, List.getElem?_cons_succ, List.getElem?_cons_zero]; rfl) (by kernel_rfl) (by kernel_rfl) (by kernel_rfl) (by intro _ _ _ h; exact h) (Or.inr ⟨by go_simp, rfl⟩) Hb.out ?_
          try go_frame
          refine wpAnyH_take (i := 26) (by simp only [List.getElem?_toArray, List.getElem?_cons_succ, List.getElem?_cons_zero]; rfl) (by kernel_rfl) (by kernel_rfl) (by kernel_rfl) (by intro _ _ _ h; exact h) (Or.inr ⟨by go_simp, rfl⟩) Hb.out ?_
          refine wpAnyH_take (i := 27) (by simp only [List.getElem?_toArray, List.getElem?_cons_succ, List.getElem?_cons_zero]; rfl) (by kernel_rfl) (by kernel_rfl) (by kernel_rfl) (by intro _ _ _ h; exact h) (Or.inr ⟨by go_simp, rfl⟩) Hb.out ?_
          try go_frame
          refine wpAnyH_take (i := 28) (by simp only [List.getElem?_toArray, List.getElem?_cons_succ, List.getElem?_cons_zero]; rfl) (by kernel_rfl) (by kernel_rfl) (by kernel_rfl) (by intro _ _ _ h; exact h) (Or.inr ⟨by go_simp, rfl⟩) Hb.out ?_
          refine wpAnyH_take (i := 29) (by simp only [List.getElem?_toArray, List.getElem?_cons_succ, List.getElem?_cons_zero]; rfl) (by kernel_rfl) (by kernel_rfl) (by kernel_rfl) (by intro _ _ _ h; exact h) (Or.inr ⟨by go_simp, rfl⟩) Hb.out ?_
          try go_frame
          refine wpAnyH_take (i := 30) (by simp only [List.getElem?_toArray, List.getElem?_cons_succ, List.getElem?_cons_zero]; rfl) (by kernel_rfl) (by kernel_rfl) (by kernel_rfl) (by intro _ _ _ h; exact h) (Or.inr ⟨by go_simp, rfl⟩) Hb.out ?_
          refine wpAnyH_take (i := 31) (by simp only [List.getElem?_toArray, List.getElem?_cons_succ, List.getElem?_cons_zero]; rfl) (by kernel_rfl) (by kernel_rfl) (by kernel_rfl) (by intro _ _ _ h; exact h) (Or.inr ⟨by go_simp, rfl⟩) Hb.out ?_
          try go_frame
          refine wpAnyH_take (i := 32) (by simp only [List.getElem?_toArray, List.getElem?_cons_succ, List.getElem?_cons_zero]; rfl) (by kernel_rfl) (by kernel_rfl) (by kernel_rfl) (by intro _ _ _ h; exact h) (Or.inr ⟨by go_simp, rfl⟩) Hb.out ?_
          refine wpAnyH_take (i := 33) (by simp only [List.getElem?_toArray, List.getElem?_cons_succ, List.getElem?_cons_zero]; rfl) (by kernel_rfl) (by kernel_rfl) (by kernel_rfl) (by intro _ _ _ h; exact h) (Or.inr ⟨by go_simp, rfl⟩) Hb.out ?_
          try go_frame
          refine wpAnyH_take (i := 34) (by simp only [List.getElem?_toArray, List.getElem?_cons_succ, List.getElem?_cons_zero]; rfl) (by kernel_rfl) (by kernel_rfl) (by kernel_rfl) (by intro _ _ _ h; exact h) (Or.inr ⟨by go_simp, rfl⟩) Hb.out ?_
          refine wpAnyH_take (i := 35) (by simp only [List.getElem?_toArray, List.getElem?_cons_succ, List.getElem?_cons_zero]; rfl) (by kernel_rfl) (by kernel_rfl) (by kernel_rfl) (by intro _ _ _ h; exact h) (Or.inr ⟨by go_simp, rfl⟩) Hb.out ?_
          try go_frame
          refine wpAnyH_take (i := 36) (by simp only [List.getElem?_toArray, List.getElem?_cons_succ, List.getElem?_cons_zero]; rfl) (by kernel_rfl) (by kernel_rfl) (by kernel_rfl) (by intro _ _ _ h; exact h) (Or.inr ⟨by go_simp, rfl⟩) Hb.out ?_
          refine wpAnyH_take (i := 37) (by simp only [List.getElem?_toArray, List.getElem?_cons_succ, List.getElem?_cons_zero]; rfl) (by kernel_rfl) (by kernel_rfl) (by kernel_rfl) (by intro _ _ _ h; exact h) (Or.inl ⟨by first | rfl | go_simp, fun w hw => by (obtain ⟨n0, rfl⟩ := hw; go_simp; try rfl)⟩) Hb.out ?_
          try go_frame
          refine wpAnyH_take (i := 38) (by simp only [List.getElem?_toArray, List.getElem?_cons_succ, List.getElem?_cons_zero]; rfl) (by kernel_rfl) (by kernel_rfl) (by kernel_rfl) (by intro _ _ _ h; exact h) (Or.inl ⟨by first | rfl | go_simp, fun w hw => by (obtain ⟨n0, rfl⟩ := hw; go_simp; try rfl)⟩) Hb.out ?_
          refine wpAnyH_take (i := 39) (by simp only [List.getElem?_toArray, List.getElem?_cons_succ, List.getElem?_cons_zero]; rfl) (by kernel_rfl) (by kernel_rfl) (by kernel_rfl) (by intro _ _ _ h; exact h) (Or.inr ⟨by go_simp, rfl⟩) Hb.out ?_
          try go_frame
          refine wpAnyH_take (i := 40) (by simp only [List.getElem?_toArray, List.getElem?_cons_succ, List.getElem?_cons_zero]; rfl) (by kernel_rfl) (by kernel_rfl) (by kernel_rfl) (by intro _ _ _ h; exact h) (Or.inr ⟨by go_simp, rfl⟩) Hb.out ?_
          refine wpAnyH_take (i := 41) (by simp only [List.getElem?_toArray, List.getElem?_cons_succ, List.getElem?_cons_zero]; rfl) (by kernel_rfl) (by kernel_rfl) (by kernel_rfl) (by intro _ _ _ h; exact h) (Or.inr ⟨by go_simp, rfl⟩) Hb.out ?_
          try go_frame
          refine wpAnyH_take (i := 42) (by simp only [List.getElem?_toArray, List.getElem?_cons_succ, List.getElem?_cons_zero]; rfl) (by kernel_rfl) (by kernel_rfl) (by kernel_rfl) (by intro _ _ _ h; exact h) (Or.inr ⟨by go_simp, rfl⟩) Hb.out ?_
          refine wpAnyH_take (i := 43) (by simp only [List.getElem?_toArray, List.getElem?_cons_succ, List.getElem?_cons_zero]; rfl) (by kernel_rfl) (by kernel_rfl) (by kernel_rfl) (by intro _ _ _ h; exact h) (Or.inr ⟨by go_simp, rfl⟩) Hb.out ?_
          try go_frame
          refine wpAnyH_take (i := 44) (by simp only [List.getElem?_toArray, List.getElem?_cons_succ, List.getElem?_cons_zero]; rfl) (by kernel_rfl) (by kernel_rfl) (by kernel_rfl) (by intro _ _ _ h; exact h) (Or.inr ⟨by go_simp, rfl⟩) Hb.out ?_
          refine wpAnyH_take (i := 45) (by simp only [List.getElem?_toArray, List.getElem?_cons_succ, List.getElem?_cons_zero]; rfl) (by kernel_rfl) (by kernel_rfl) (by kernel_rfl) (by intro _ _ _ h; exact h) (Or.inr ⟨by go_simp, rfl⟩) Hb.out ?_
          try go_frame
          refine wpAnyH_take (i := 46) (by simp only [List.getElem?_toArray, List.getElem?_cons_succ, List.getElem?_cons_zero]; rfl) (by kernel_rfl) (by kernel_rfl) (by kernel_rfl) (by intro _ _ _ h; exact h) (Or.inr ⟨by go_simp, rfl⟩) Hb.out ?_
          refine wpAnyH_take (i := 47) (by simp only [List.getElem?_toArray, List.getElem?_cons_succ, List.getElem?_cons_zero]; rfl) (by kernel_rfl) (by kernel_rfl) (by kernel_rfl) (by intro _ _ _ h; exact h) (Or.inr ⟨by go_simp, rfl⟩) Hb.out ?_
          try go_frame
          refine wpAnyH_take (i := 48) (by simp only [List.getElem?_toArray, List.getElem?_cons_succ, List.getElem?_cons_zero]; rfl) (by kernel_rfl) (by kernel_rfl) (by kernel_rfl) (by intro _ _ _ h; exact h) (Or.inr ⟨by go_simp, rfl⟩) Hb.out ?_
          refine wpAnyH_take (i := 49) (by simp only [List.getElem?_toArray, List.getElem?_cons_succ, List.getElem?_cons_zero]; rfl) (by kernel_rfl) (by kernel_rfl) (by kernel_rfl) (by intro _ _ _ h; exact h) (Or.inr ⟨by go_simp, rfl⟩) Hb.out ?_
          try go_frame
          refine wpAnyH_take (i := 50) (by simp only [List.getElem?_toArray, List.getElem?_cons_succ, List.getElem?_cons_zero]; rfl) (by kernel_rfl) (by kernel_rfl) (by kernel_rfl) (by intro _ _ _ h; exact h) (Or.inr ⟨by go_simp, rfl⟩) Hb.out ?_
          refine wpAnyH_take (i := 51) (by simp only [List.getElem?_toArray, List.getElem?_cons_succ, List.getElem?_cons_zero]; rfl) (by kernel_rfl) (by kernel_rfl) (by kernel_rfl) (by intro _ _ _ h; exact h) (Or.inl ⟨by first | rfl | go_simp, fun w hw => by (obtain ⟨n0, rfl⟩ := hw; go_simp; try rfl)⟩) Hb.out ?_
          try go_frame
          refine wpAnyH_done (by kernel_rfl) ?_ _
          (obtain ⟨n0, rfl⟩ := Hb.out; go_wp2_with fail; go_ret; exact ⟨by rw [decide_eq_false Hres.out]; rfl, _, rfl⟩)
      · obtain rfl : na = k := by omega
        have Hres : Hid (la.map LP.key = lb.map LP.key) := take_all (by rw [List.length_map, ← Hn.out.1]; exact htk) (by rw [List.length_map, List.length_map, ← Hn.out.1, ← Hn.out.2])
        clear hkn htk
        go_wp2_with fail
        go_ret
        exact ⟨by rw [decide_eq_true Hres.out]; rfl, q, rfl⟩
  · have hq0 : ((na : Int) != (nb : Int)) = true := by simp; omega
    have Hres : Hid (¬ la.map LP.key = lb.map LP.key) := fun h => by
      have := congrArg List.length h
      rw [List.length_map, List.length_map, ← Hn.out.1, ← Hn.out.2] at this
      exact hab' this
    clear hab'
    go_enter Tryd.func10, Tryd.ntmps10
    go_wp2_with fail
    go_ret
    exact ⟨by rw [decide_eq_false Hres.out]; rfl, 0, rfl⟩
end Go.Proofs.YtapjdndcnenadaaDoor
