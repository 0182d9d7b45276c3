/- R15.Order of the reference: the same order, or the same ring. -/
import Derived.Test.YtggkeodoenhmoaaDoorTab
import Derived.Test.YtggkeodoenhmoaaDoorOrderC
namespace Go.Proofs.YtggkeodoenhmoaaDoor
open Go.RowKit

set_option maxRecDepth 100000 in
set_option maxHeartbeats 2000000 in
theorem rorder_many (vt vf : Value) (F : List FR) (w : World) (hF : FuncsIn w vf F) (hn : 32 < F.length) :
    Calls Tryd.prog 13 #[modV vt vf] w (RetOrder F w) := by
  obtain ⟨-, af, cf, hvf, -⟩ := hF.row
  subst hvf
  have hnf := hF.nFuncs
  have Hres : Hid (OrderIs F [] 3 32 0) := .inl ⟨hn, rfl, rfl, rfl, rfl⟩
  clear hF
  generalize F.length = n at *
  go_enter Tryd.func13, Tryd.ntmps13
  go_wp2_with fail
  have e : ∀ j u, (#[Value.int .i64 3, .int .i64 32, .int .i64 0] : Array Value)[j]? = some u → ((w.alloc (.cells #[vt, .slice af n cf] 25)).alloc (.cells #[.int .i64 3, .int .i64 32, .int .i64 0] 35)).cell? ⟨w.heap.size + 1, j, none⟩ = some u := fun j u hu => by
    rw [World.cell?_alloc_at _ _ _ _ (by simp)]; exact hu
  have e0 := e 0 _ rfl
  have e1 := e 1 _ rfl
  have e2 := e 2 _ rfl
  exact bodyPost_ret (v := .tuple #[.slice none 0 0, faultV 3 32 0]) (by simp [results, Tryd.results13, go_sem, e0, e1, e2]) rfl ⟨_, [], 3, 32, 0, rfl, World.ownsRow_nil _ _ _ _, Hres.out, ((Below.refl _ _).alloc (Nat.le_refl _) _).alloc (by (try simp only [World.size_alloc]); (try simp only [size_set]); omega) _⟩

set_option maxRecDepth 100000 in
set_option maxHeartbeats 4000000 in
theorem rorder_in (vt vf : Value) (F : List FR) (w : World) (hF : FuncsIn w vf F) (hn32 : F.length ≤ 32) :
    Calls Tryd.prog 13 #[modV vt vf] w (RetOrder F w) := by
  have hF0 := hF
  obtain ⟨-, af, cf, hvf, -⟩ := hF.row
  subst hvf
  obtain ⟨n, hn⟩ : ∃ n, n = F.length := ⟨_, rfl⟩
  rw [← hn]
  obtain ⟨W1, hW1⟩ : ∃ W1, W1 = (w.alloc (.cells #[vt, .slice af n cf] 25)).alloc (.cells #[.int .i64 0, .int .i64 0, .int .i64 0] 35) := ⟨_, rfl⟩
  have how : OW w W1 vt (.slice af n cf) := by rw [hW1]; exact OW.start w vt _
  have hF1 : FuncsIn W1 (.slice af n cf) F := by have := hF0.later how.below; rwa [← hn] at this
  have H1 := Lib.hid (And.intro how hF1)
  have hsW : W1.heap.size = w.heap.size + 2 := by rw [hW1]; simp
  have hn1 : n ≤ 32 := by omega
  have HF := Lib.hid hF0
  have Hn := Lib.hid hn
  have HW1 := Lib.hid hW1
  have HsW := Lib.hid hsW
  clear hF hF0 hn how hF1 hW1 hn32 hsW
  go_enter Tryd.func13, Tryd.ntmps13
  go_wp2_with fail
  rw [← HW1.out]
  refine (table_any vt _ F _ H1.out.2 (by rw [← Hn.out]; exact hn1)).mono ?_
  rintro e w2 ⟨v2, rfl, htab, hb2⟩
  rw [HsW.out] at hb2
  have htab0 := htab
  obtain ⟨vs, hsl, -, -⟩ := htab0
  obtain ⟨-, a2, c2, rfl, -⟩ := hsl
  rw [tabL_len, ← Hn.out] at htab ⊢
  have H2 := Lib.hid (And.intro (H1.out.1.later hb2 (Nat.le_refl _)) htab)
  have hs2 : w.heap.size + 2 ≤ w2.heap.size := by have := hb2.size; rw [HsW.out] at this; exact this
  clear htab hb2 H1 HW1
  go_wp2_with fail
  go_loopw [5] (fun i wr => ∃ f : Nat, f ≤ n ∧ i = .int .i64 f ∧ (∀ j : Nat, j < f → ¬ Lead F j j) ∧ Below w2.heap.size w2 wr) (fun i _ => n - (intOf i).toNat)
  case atStart => exact ⟨0, Nat.zero_le _, rfl, fun j h => by omega, Below.refl _ _⟩
  case round =>
    obtain ⟨f, hf, rfl, hno, hb⟩ := hrel
    have hsz := hb.size
    by_cases hfn : f < n
    · have Hb := Lib.hid (And.intro hno hb)
      have hcall := rleads_any _ F f (f : Int) wr (H2.out.2.later hb) (by rw [← Hn.out]; exact hfn) (by rw [← Hn.out]; exact hn1)
      have Hcall := Lib.hid hcall
      clear hno hb hcall
      go_wp2_with fail
      refine Hcall.out.mono ?_
      rintro e w3 ⟨b, rfl, hbl, hb3⟩
      have hb23 : Below w2.heap.size w2 w3 := Hb.out.2.trans (hb3.mono hsz)
      have how3 := H2.out.1.later hb23 hs2
      have Hbl := Lib.hid (And.intro hbl hb23)
      obtain ⟨m0, m1⟩ := how3.box
      have hs3 : w2.heap.size ≤ w3.heap.size := hb23.size
      have How3 := Lib.hid how3
      clear hbl hb3 hb23 how3 Hcall
      cases b
      · go_wp2_with fail
        go_roundw
        case rel => exact ⟨f + 1, by omega, by go_num, fun j hj => by
          by_cases hjf : j = f
          · subst hjf; exact fun h => by have := Hbl.out.1.2 h; cases this
          · exact Hb.out.1 j (by omega), Hbl.out.2⟩
        case measure => simp [intOf]; omega
      · have hm : Lead F f f := Hbl.out.1.1 rfl
        have Hm := Lib.hid hm
        have hF3 : FuncsIn w3 (.slice af n cf) F := by have := HF.out.later How3.out.below; rwa [← Hn.out] at this
        have HF3 := Lib.hid hF3
        clear hm hF3
        go_wp2_with fail
        refine (rcalls_any vt _ F (f : Int) _ HF3.out).mono ?_
        rintro e w4 ⟨v4, rfl, hv4, hb4⟩
        obtain ⟨C, hC⟩ : ∃ C, C = callsFn F f := ⟨_, rfl⟩
        have hCl : (callsFn F f).length ≤ 1024 := callsFn_len _ _
        have hCr : ∀ p ∈ C, 0 ≤ p.2 ∧ p.2 < n := fun p hp => by rw [hC] at hp; rw [Hn.out]; exact callsFn_range hp
        rw [← hC] at hv4 hCl
        obtain ⟨av, cv, rfl, hav⟩ := pr_form hv4
        obtain ⟨nC, hnC⟩ : ∃ nC, nC = C.length := ⟨_, rfl⟩
        rw [← hnC] at hv4 hCl hav ⊢
        have hs4 : w3.heap.size ≤ w4.heap.size := hb4.size
        have H4 := Lib.hid (And.intro hv4 (Hbl.out.2.trans (hb4.mono hs3)))
        have HnC := Lib.hid hnC
        have HC := Lib.hid hC
        have HCr := Lib.hid hCr
        have Hav := Lib.hid hav
        clear hv4 hb4 hC hCr hav hnC HF3
        go_wp2_with fail
        go_loopw [8] (fun i wi => ∃ k : Nat, k ≤ nC ∧ i = .int .i64 k ∧ (∀ (j : Nat) p, j < k → C[j]? = some p → ¬ BackAt F f p) ∧ Below w4.heap.size w4 wi) (fun i _ => nC - (intOf i).toNat)
        case atStart => exact ⟨0, Nat.zero_le _, rfl, fun j p h => by omega, Below.refl _ _⟩
        case round =>
          obtain ⟨k, hk, rfl, hnb, hbi⟩ := hrel
          by_cases hkn : k < nC
          · have hb2i : Below w2.heap.size w2 wr := H4.out.2.trans (hbi.mono (by omega))
            obtain ⟨gv, rfl, hgv1, hgv2⟩ := Hav.out (by omega)
            obtain ⟨⟨pa, pb⟩, hp⟩ : ∃ p, C[k]? = some p := ⟨C[k]'(by rw [← HnC.out]; exact hkn), List.getElem?_eq_getElem _⟩
            obtain ⟨-, c0, c1⟩ := OwnPr.cell (ownsRow_below H4.out.1 hbi (Nat.le_refl _)) hp
            simp only at c0 c1
            obtain ⟨hr1, hr2⟩ := HCr.out (pa, pb) (List.mem_of_getElem? hp)
            simp only at hr1 hr2
            obtain ⟨q, rfl⟩ := Int.eq_ofNat_of_zero_le hr1
            have hq2 : q < n := by omega
            have hszi := hbi.size
            have Hcall := Lib.hid (rleads_any _ F q (f : Int) wr (H2.out.2.later hb2i) (by rw [← Hn.out]; exact hq2) (by rw [← Hn.out]; exact hn1))
            have Hi := Lib.hid (And.intro hnb (And.intro hp (And.intro hbi hb2i)))
            have hgvi : gv < wr.heap.size := by omega
            clear hnb hp hbi hb2i hgv1 hr1
            go_wp2_with fail
            refine Hcall.out.mono ?_
            rintro e w6 ⟨b6, rfl, hbl6, hb6⟩
            obtain ⟨hnb, hp, hbi, hb2i⟩ := Hi.out
            have hb26 : Below w2.heap.size w2 w6 := hb2i.trans (hb6.mono hb2i.size)
            have hb46 : Below w4.heap.size w4 w6 := hbi.trans (hb6.mono hszi)
            have d0 := (hb6.cell (p := ⟨gv, k * 2, none⟩) hgvi).trans c0
            have d1 := (hb6.cell (p := ⟨gv, k * 2 + 1, none⟩) hgvi).trans c1
            have how6 := H2.out.1.later hb26 hs2
            have H6 := Lib.hid (And.intro hnb (And.intro hp (And.intro hb46 (And.intro hbl6 how6))))
            clear hnb hp hbi hb2i hb26 hb46 hb6 hbl6 c0 c1 Hi Hcall
            cases b6
            · have hqf : ((q : Int) == (f : Int)) = false := by
                refine beq_eq_false_iff_ne.2 (fun e => ?_)
                have := H6.out.2.2.2.1.2 (by rw [e]; exact Hm.out)
                cases this
              clear how6
              go_wp2_with fail
              go_roundw
              case rel => exact ⟨k + 1, by omega, by go_num, fun j p hj hjp => by
                by_cases hjk : j = k
                · subst hjk
                  rw [H6.out.2.1] at hjp; cases hjp
                  rintro (h | h)
                  · have := H6.out.2.2.2.1.2 h; cases this
                  · simp only at h
                    exact beq_eq_false_iff_ne.1 hqf h
                · exact H6.out.1 j p (by omega) hjp, H6.out.2.2.1⟩
              case measure => simp [intOf]; omega
            · have g0 := how6.f0
              have g1 := how6.f1
              have g2 := how6.f2
              have z0 := how6.fz 0
              have z1 := how6.fz 1
              have z2 := how6.fz 2
              have Hres : Hid (OrderIs F [] 75 (f : Int) pa) := .inr (.inl ⟨by have := Hn.out; omega, rfl, rfl, f, k, (pa, (q : Int)), rfl, by have := Hn.out; omega, ⟨Hm.out, ⟨(pa, (q : Int)), by rw [← HC.out]; exact H6.out.2.1, .inl (H6.out.2.2.2.1.1 rfl)⟩, fun j p hj hjp => H6.out.1 j p hj (by rw [HC.out]; exact hjp)⟩, by rw [← HC.out]; exact H6.out.2.1, rfl, fun i hi => Hb.out.1 i hi⟩)
              clear how6
              go_wp2_with fail
              go_region
              go_wp2_with fail
              obtain ⟨WF, hWF⟩ : ∃ WF : World, WF = (((w6.setCell ⟨w.heap.size + 1, 0, none⟩ (.int .i64 75)).setCell ⟨w.heap.size + 1, 1, none⟩ (.int .i64 (f : Int))).setCell ⟨w.heap.size + 1, 2, none⟩ (.int .i64 pa)).drew := ⟨_, rfl⟩
              rw [← hWF]
              obtain ⟨e0, e1, e2, hbF⟩ := fault_set H6.out.2.2.2.2 hWF
              exact bodyPost_ret (v := .tuple #[.slice none 0 0, faultV 75 (f : Int) pa]) (by simp [results, Tryd.results13, go_sem, e0, e1, e2]) rfl ⟨_, [], 75, (f : Int), pa, rfl, World.ownsRow_nil _ _ _ _, Hres.out, hbF⟩
          · exfalso
            refine no_ring (F := F) (f := f) (fun p hp => ?_) Hm.out
            rw [← HC.out] at hp
            obtain ⟨j, hj⟩ := List.getElem?_of_mem hp
            exact hnb j p (by have := (List.getElem?_eq_some_iff.1 hj).1; rw [← HnC.out] at this; omega) hj
    · have ef : f = n := by omega
      subst ef
      obtain ⟨W3, rfl⟩ : ∃ W3 : World, W3 = wr := ⟨_, rfl⟩
      have hnr : ∀ x, ¬ Lead F x x := fun x hx => by
        have hr := hx.range
        rw [← Hn.out] at hr
        have := hno x.toNat (by omega)
        rw [show ((x.toNat : Nat) : Int) = x by omega] at this
        exact this hx
      have Hnr := Lib.hid hnr
      have H3 := Lib.hid (And.intro (H2.out.1.later hb hs2) (H2.out.2.later hb))
      have hs3 : w.heap.size + 2 ≤ W3.heap.size := by omega
      obtain ⟨B, hB⟩ : ∃ B, B = W3.heap.size := ⟨_, rfl⟩
      have hO0 : OwnInts (W3.alloc (.cells #[] 3)) B (.slice (some ⟨B, 0, none⟩) 0 0) [] := by rw [hB]; exact owns_empty W3 _ _ (Nat.le_refl _)
      have HO0 := Lib.hid hO0
      have HB := Lib.hid hB
      clear hno hb hsz hnr hO0 H2 hB
      go_wp2_with (at_make; refine make_bools rfl _ _ rfl (W3.heap.size + 1) f rfl rfl (by omega) (by (try simp only [World.size_alloc]); (try simp only [size_set]); omega) ?_)
      intro w4 hdn hg4
      have hb4 : Below (B + 1) (W3.alloc (.cells #[] 3)) w4 := Below.grown (Below.refl _ _) hg4 (by rw [HB.out]; simp) (by intro k hk; cases hk)
      have hbW : Below B W3 w4 := ((Below.refl _ _).alloc (by rw [HB.out]; omega) _).trans (hb4.mono (by omega))
      have hs4 : B + 2 ≤ w4.heap.size := by
        have := (World.ownsRow.lt hdn (W3.heap.size + 1) (by simp [Value.ownBlock])).2
        have := HB.out; omega
      have hO4 : OwnInts w4 B (.slice (some ⟨B, 0, none⟩) 0 0) [] := OwnInts.at_block HO0.out (fun g hg => by
        have e := Option.some.inj (show some B = some g from hg)
        exact hb4.block g (by omega))
      have hdn4 : OwnBools w4 (B + 1) (.slice (some ⟨B + 1, 0, none⟩) f f) (List.replicate f false) := by rw [HB.out]; exact hdn
      have H4 := Lib.hid (And.intro hO4 (And.intro hdn4 hbW))
      clear hdn hg4 hb4 hbW hO4 hdn4
      go_wp2_with fail
      rw [← HB.out]
      go_loopg [10] (f + 1) (fun g v wi => ∃ (l : List Int) (dl : List Bool), (g = f + 1 - l.length ∧ l.length ≤ f) ∧ (∃ a c, v = .slice a l.length c) ∧ OwnInts wi B v l ∧ v.ownBlock ≠ some (B + 1) ∧ OwnBools wi (B + 1) (.slice (some ⟨B + 1, 0, none⟩) f f) dl ∧ dl.length = f ∧
        (∀ x : Nat, x < f → dl.getD x false = decide ((x : Int) ∈ l)) ∧ Ord F l ∧ Below B W3 wi ∧ B + 2 ≤ wi.heap.size)
      case atStart =>
        exact ⟨[], List.replicate f false, ⟨by simp, by simp⟩, ⟨_, _, rfl⟩, H4.out.1, by simp [Value.ownBlock], H4.out.2.1, by simp, fun x hx => by simp [List.getD, hx], Ord.nil F, H4.out.2.2, hs4⟩
      case round =>
        obtain ⟨l, dl, ⟨hg, hlf⟩, ⟨a10, c10, rfl⟩, hown, hne, hdn, hdl, hdx, hord, hb, hs⟩ := hrel
        obtain ⟨W5, rfl⟩ : ∃ W5 : World, W5 = wr := ⟨_, rfl⟩
        obtain ⟨ln, hln⟩ : ∃ ln, ln = l.length := ⟨_, rfl⟩
        rw [← hln] at hown hne hlf hg ⊢
        have how := H3.out.1.later hb (by have := HB.out; omega)
        have htab := H3.out.2.later (by have := HB.out; rw [← this]; exact hb)
        have Hg := Lib.hid hg
        have Hln := Lib.hid hln
        have Hi := Lib.hid (And.intro hown (And.intro hne (And.intro hdn (And.intro hdl (And.intro hdx (And.intro hord (And.intro hb (And.intro how htab))))))))
        have hff0 : ∀ x : Nat, x < f → dl.getD x false = decide ((x : Int) ∈ l) := hdx
        clear hown hne hdn hdl hord hb how htab hg hln hdx
        by_cases hlt : ln < f
        · have hex : ∃ x, NextIs F l x := by
            refine next_exists Hnr.out ?_
            apply Classical.byContradiction
            intro hc
            have hall : ∀ x : Nat, x < f → (x : Int) ∈ l := fun x hx => Classical.byContradiction fun hxl => hc ⟨x, by omega, by rw [← Hn.out]; omega, hxl⟩
            have := nodup_sub ((List.range f).map Int.ofNat) l (nodup_of_sorted (rangeI_sorted f)) (fun x hx => by
              obtain ⟨y, hy, rfl⟩ := List.mem_map.1 hx
              exact hall y (List.mem_range.1 hy))
            simp at this
            have := Hln.out
            omega
          have Hex := Lib.hid hex
          have Hff0 := Lib.hid hff0
          clear hex hff0
          go_wp2_with fail
          go_loopw [10, 12] (fun v i wi => ∃ y : Nat, y ≤ f ∧ v = .slice a10 ln c10 ∧ i = .int .i64 y ∧ (∀ x : Nat, x < y → ¬ (x : Int) ∈ l → ∃ g ∈ ofFn F (x : Int), ¬ g ∈ l) ∧ wi = W5) (fun _ i _ => f - (intOf i).toNat)
          case atStart => exact ⟨0, Nat.zero_le _, rfl, rfl, fun x h => by omega, rfl⟩
          case round =>
            obtain ⟨y, hy, rfl, rfl, hbl, rfl⟩ := hrel
            obtain ⟨W5, rfl⟩ : ∃ W5 : World, W5 = wr := ⟨_, rfl⟩
            by_cases hyf : y < f
            · obtain ⟨hown, hne, hdn, hdl, -, hord, hb, how, htab⟩ := Hi.out
              obtain ⟨-, bt, ot, xY, rfl, hbt, hcY, hxY⟩ := htab.at (k := y) (tabL_at (by rw [← Hn.out]; exact hyf))
              have hxY0 := hxY
              obtain ⟨-, aY, cY, rfl, -⟩ := hxY0
              have hOl := ofFn_len F (y : Int)
              have hOr : ∀ g ∈ ofFn F (y : Int), 0 ≤ g ∧ g < f := fun g hg => by rw [Hn.out]; exact ofFn_range hg
              obtain ⟨O, hO⟩ : ∃ O, O = ofFn F (y : Int) := ⟨_, rfl⟩
              rw [← hO] at hcY hxY hOl hOr
              obtain ⟨lY, hlY⟩ : ∃ lY, lY = O.length := ⟨_, rfl⟩
              rw [← hlY] at hcY hxY hOl
              have hdy : W5.cell? ⟨B + 1, y, none⟩ = some (.bool (dl.getD y false)) := OwnBools.cell hdn (by rw [hdl]; exact hyf)
              rw [Hff0.out y hyf] at hdy
              have HO := Lib.hid hO
              have HlY := Lib.hid hlY
              have HxY := Lib.hid hxY
              have HOr := Lib.hid hOr
              have Hbl := Lib.hid hbl
              obtain ⟨dy, hdye⟩ : ∃ dy, dy = decide ((y : Int) ∈ l) := ⟨_, rfl⟩
              rw [← hdye] at hdy
              have Hdy := Lib.hid hdye
              have hyr : y < 1000 := by omega
              clear hown hne hdn hdl hord hb how htab hxY hO hlY hOr hbl hdye
              go_wp2_with fail
              go_loopw [13, 14] (fun m i wi => ∃ (k : Nat) (mb : Bool), k ≤ lY ∧ i = .int .i64 k ∧ m = .bool mb ∧ (mb = true ↔ (dy = false ∧ ∀ g ∈ O.take k, g ∈ l)) ∧ wi = W5) (fun _ i _ => lY - (intOf i).toNat)
              case atStart => exact ⟨0, !dy, Nat.zero_le _, rfl, rfl, by cases dy <;> simp, rfl⟩
              case round =>
                obtain ⟨k, mb, hk, rfl, rfl, hmb, rfl⟩ := hrel
                obtain ⟨W5, rfl⟩ : ∃ W5 : World, W5 = wr := ⟨_, rfl⟩
                by_cases hkl : k < lY
                · obtain ⟨bY, oY, rfl, hbY, hcG⟩ := IntsIn.cell (by have := HxY.out; rw [HlY.out] at this; exact this) (k := k) (by rw [← HlY.out]; exact hkl)
                  have hG : O[k]? = some (O[k]'(by rw [← HlY.out]; exact hkl)) := List.getElem?_eq_getElem _
                  have hGd : O.getD k 0 = O[k]'(by rw [← HlY.out]; exact hkl) := by simp [List.getD, hG]
                  rw [← hGd] at hG
                  have hGr := HOr.out _ (List.mem_of_getElem? hG)
                  have htk := take_snoc hG
                  obtain ⟨G, hGe⟩ := Int.eq_ofNat_of_zero_le hGr.1
                  rw [hGe] at hcG hG htk hGr
                  have hGf : G < f := by omega
                  have hdG : W5.cell? ⟨B + 1, G, none⟩ = some (.bool (dl.getD G false)) := OwnBools.cell Hi.out.2.2.1 (by rw [Hi.out.2.2.2.1]; exact hGf)
                  rw [Hff0.out G hGf] at hdG
                  obtain ⟨dG, hdGe⟩ : ∃ dG, dG = decide ((G : Int) ∈ l) := ⟨_, rfl⟩
                  rw [← hdGe] at hdG
                  have Hm := Lib.hid (And.intro hmb (And.intro htk hdGe))
                  clear hmb htk hdGe hG hGd hGe hGr
                  cases mb
                  · go_wp2_with fail
                    go_roundw
                    case rel =>
                      refine ⟨k + 1, false, by omega, by go_num, rfl, ?_, trivial⟩
                      obtain ⟨h1, h2, h3⟩ := Hm.out
                      rw [h2]
                      constructor
                      · intro h; cases h
                      · rintro ⟨h4, h5⟩
                        exact h1.2 ⟨h4, fun g hg => h5 g (by simp [hg])⟩
                    case measure => simp [intOf]; omega
                  · go_wp2_with fail
                    go_roundw
                    case rel =>
                      refine ⟨k + 1, dG, by omega, by go_num, rfl, ?_, trivial⟩
                      obtain ⟨h1, h2, h3⟩ := Hm.out
                      rw [h2]
                      obtain ⟨h4, h5⟩ := h1.1 rfl
                      rw [h3, decide_eq_true_iff]
                      constructor
                      · intro h; exact ⟨h4, fun g hg => by
                          rcases List.mem_append.1 hg with hg | hg
                          · exact h5 g hg
                          · simp at hg; rw [hg]; exact h⟩
                      · rintro ⟨_, h6⟩; exact h6 _ (by simp)
                    case measure => simp [intOf]; omega
                · have ek : k = lY := by omega
                  subst ek
                  rw [List.take_of_length_le (Nat.le_of_eq HlY.out.symm)] at hmb
                  have Hm := Lib.hid hmb
                  clear hmb
                  cases mb
                  · go_wp2_with fail
                    go_roundw
                    case rel =>
                      refine ⟨y + 1, by omega, rfl, by go_num, fun x hx hxl => ?_, trivial⟩
                      by_cases hxy : x = y
                      · subst hxy
                        apply Classical.byContradiction
                        intro hc
                        have : false = true := Hm.out.2 ⟨by rw [Hdy.out]; exact decide_eq_false hxl, fun g hg => Classical.byContradiction fun hgl => hc ⟨g, by rw [← HO.out]; exact hg, hgl⟩⟩
                        cases this
                      · exact Hbl.out x (by omega) hxl
                    case measure => simp [intOf]; omega
                  · obtain ⟨h1, h2⟩ := Hm.out.1 rfl
                    rw [Hdy.out] at h1
                    have hyl : ¬ (y : Int) ∈ l := of_decide_eq_false h1
                    have hnext : NextIs F l (y : Int) := ⟨by omega, by rw [← Hn.out]; omega, hyl, fun g hg => h2 g (by rw [HO.out]; exact hg), fun x hx0 hxy hxl => by
                      have e : ((x.toNat : Nat) : Int) = x := by omega
                      obtain ⟨g, hg, hgl⟩ := Hbl.out x.toNat (by omega) (by rw [e]; exact hxl)
                      rw [e] at hg
                      exact ⟨g, hg, hgl⟩⟩
                    have Hnext := Lib.hid hnext
                    have Hyl := Lib.hid hyl
                    obtain ⟨hown, hne, hdn, hdl, hdx, hord, hb, how, htab⟩ := Hi.out
                    have hfz : W5.frozen? ⟨B + 1, y, none⟩ = false := OwnBools.free hdn y
                    have hdn2 : OwnBools (W5.setCell ⟨B + 1, y, none⟩ (.bool true)) (B + 1) (.slice (some ⟨B + 1, 0, none⟩) f f) (dl.set y true) := OwnBools.store hdn y true
                    have hown2 : OwnInts (W5.setCell ⟨B + 1, y, none⟩ (.bool true)) B (.slice a10 ln c10) l := OwnInts.at_block hown (fun g hg => Below.heap_setCell _ _ _ _ (by show g ≠ B + 1; intro e; rw [e] at hg; exact hne hg))
                    have hb2 : Below B W3 (W5.setCell ⟨B + 1, y, none⟩ (.bool true)) := hb.setCell (by show B ≤ B + 1; omega) _
                    have H8 := Lib.hid (And.intro hdn2 (And.intro hown2 hb2))
                    have Hll : Hid (l.length ≤ 1000000000000) := by show _ ≤ _; rw [← Hln.out]; omega
                    have hsz8 : B ≤ (W5.setCell ⟨B + 1, y, none⟩ (.bool true)).heap.size := by rw [size_set]; omega
                    clear h1 h2 hyl hnext hown hne hdn hdl hdx hord hb how htab hdn2 hown2 hb2
                    go_wp2_with (at_builtin; refine append_int_at rfl _ _ rfl B _ l rfl H8.out.2.1 (y : Int) W5.heap.size rfl (size_set _ _ _) Hll.out hsz8 ?_)
                    intro v9 w9 ho9 hg9 hf9 hb9
                    obtain ⟨hown, hne, hdn, hdl, hdx, hord, hb, how, htab⟩ := Hi.out
                    have hform : ∃ a c, v9 = .slice a (l ++ [(y : Int)]).length c := by
                      rcases OwnInts.form ho9 with ⟨h, h2⟩ | ⟨g, c, h, _⟩
                      · simp at h2
                      · exact ⟨_, _, h⟩
                    have hne9 : v9.ownBlock ≠ some (B + 1) := hf9 (B + 1) (by simp only [World.size_alloc, size_set]; omega) hne
                    have hdn9 : OwnBools w9 (B + 1) (.slice (some ⟨B + 1, 0, none⟩) f f) (dl.set y true) := (World.ownsRow.alloc H8.out.1 _).kept hg9 (.inr (fun e => hne e.symm))
                    have hord9 := hord.snoc Hnext.out
                    have hl9 : (l ++ [(y : Int)]).length ≤ f := set_small hord9.nodup (fun x hx => by have := hord9.range hx; rw [← Hn.out] at this; exact this)
                    have hdx9 : ∀ x : Nat, x < f → (dl.set y true).getD x false = decide ((x : Int) ∈ l ++ [(y : Int)]) := fun x hx => by
                      by_cases hxy : x = y
                      · subst hxy
                        rw [List.getD_eq_getElem?_getD, List.getElem?_set_self (by rw [hdl]; exact hx)]; simp
                      · rw [List.getD_eq_getElem?_getD, List.getElem?_set_ne (by omega), ← List.getD_eq_getElem?_getD, hdx x hx]
                        have : ¬ (x : Int) = (y : Int) := by omega
                        simp [this]
                    have hb9' := hb9 _ _ H8.out.2.2 (Nat.le_refl _)
                    have hs9 : B + 2 ≤ w9.heap.size := by have := hg9.size; simp only [World.size_alloc, size_set] at this; omega
                    have H9 := Lib.hid (And.intro ho9 (And.intro hform (And.intro hne9 (And.intro hdn9 (And.intro hord9 (And.intro hl9 (And.intro hdx9 (And.intro hb9' (by rw [List.length_set]; exact hdl : (dl.set y true).length = f)))))))))
                    clear ho9 hg9 hf9 hb9 hown hne hdn hdl hdx hord hb how htab hform hne9 hdn9 hord9 hl9 hdx9 hb9'
                    go_wp2_with fail
                    go_roundg (f + 1 - (l ++ [(y : Int)]).length)
                    case measure => have h1 := Hg.out; have h2 := Hln.out; have h3 := H9.out.2.2.2.2.2.1; simp at h3 ⊢; omega
                    case rel => exact ⟨l ++ [(y : Int)], dl.set y true, ⟨rfl, H9.out.2.2.2.2.2.1⟩, H9.out.2.1, H9.out.1, H9.out.2.2.1, H9.out.2.2.2.1, H9.out.2.2.2.2.2.2.2.2, H9.out.2.2.2.2.2.2.1, H9.out.2.2.2.2.1, H9.out.2.2.2.2.2.2.2.1, hs9⟩
            · exfalso
              obtain ⟨z, hz⟩ := Hex.out
              have hzf : z < f := by have := hz.hi; rw [← Hn.out] at this; exact this
              have hz0 := hz.lo
              obtain ⟨g, hg, hgl⟩ := hbl z.toNat (by omega) (by rw [show ((z.toNat : Nat) : Int) = z by omega]; exact hz.new)
              rw [show ((z.toNat : Nat) : Int) = z by omega] at hg
              exact hgl (hz.free g hg)
        · have hlen : ln = f := by omega
          subst hlen
          have how := Hi.out.2.2.2.2.2.2.2.1
          have Hres : Hid (OrderIs F l 0 0 0) := .inr (.inr ⟨by have := Hn.out; omega, Hi.out.2.2.2.2.2.1, by rw [← Hn.out, Hln.out], Hnr.out, rfl, rfl, rfl⟩)
          have g0 := how.f0
          have g1 := how.f1
          have g2 := how.f2
          have z0 := how.fz 0
          have z1 := how.fz 1
          have z2 := how.fz 2
          clear how hff0
          go_wp2_with fail
          obtain ⟨WF, hWF⟩ : ∃ WF : World, WF = ((W5.setCell ⟨w.heap.size + 1, 0, none⟩ (.int .i64 0)).setCell ⟨w.heap.size + 1, 1, none⟩ (.int .i64 0)).setCell ⟨w.heap.size + 1, 2, none⟩ (.int .i64 0) := ⟨_, rfl⟩
          rw [← hWF]
          obtain ⟨e0, e1, e2, hbF, hkF⟩ := fault_set0 Hi.out.2.2.2.2.2.2.2.1 hWF
          have hrow : OwnInts WF B (.slice a10 ln c10) l := OwnInts.at_block Hi.out.1 (fun g hg => hkF g (by have := (World.ownsRow.lt Hi.out.1 g hg).1; have := HB.out; omega))
          clear hWF
          exact bodyPost_ret (v := .tuple #[.slice a10 ln c10, faultV 0 0 0]) (by simp [results, Tryd.results13, go_sem, e0, e1, e2]) rfl ⟨_, l, 0, 0, 0, rfl, ownsRow_mono hrow (by have := HB.out; omega), Hres.out, hbF⟩
end Go.Proofs.YtggkeodoenhmoaaDoor
