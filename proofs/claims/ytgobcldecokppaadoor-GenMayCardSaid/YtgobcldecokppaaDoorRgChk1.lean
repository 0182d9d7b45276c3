/- ranges.Check: the two functions that it hands to a visitor. -/
import Derived.Test.YtgobcldecokppaaDoorRgAsk
import Derived.Test.YtgobcldecokppaaDoorRgOver
import Derived.Test.YtgobcldecokppaaDoorRgRng
/- ranges.own: what is wrong with a statement by itself. -/
namespace Go.Proofs.YtgobcldecokppaaDoor
open Go.RowKit Go.Maps

theorem twiceN_append (l m : List Cs) (seen : List Int) : twiceN (l ++ m) seen = (twiceN l seen || twiceN m ((l.map (·.n)).reverse ++ seen)) := by
  induction l generalizing seen with
  | nil => simp [twiceN]
  | cons c l ih => simp only [List.cons_append, twiceN, ih, Bool.or_assoc, List.map_cons, List.reverse_cons, List.append_assoc]; rfl
theorem twiceN_next {l : List Cs} {i : Nat} {y : Cs} (h : l[i]? = some y) : twiceN (l.take (i + 1)) [] = (twiceN (l.take i) [] || decide (y.n ∈ (l.take i).map (·.n))) := by
  rw [take_next h, twiceN_append]
  simp [twiceN]
theorem twiceN_stop {l : List Cs} (i : Nat) (h : twiceN (l.take i) [] = true) : twiceN l [] = true := by
  conv => lhs; rw [← List.take_append_drop i l]
  rw [twiceN_append, h]; rfl
theorem u64 : Tryd.prog.underlying 2 = some (.int .i64) := Tryd.underlying2
/-- The tail of own: the calls of both expressions. -/
def tailE (ar : ByteArray → Int) (x : St) : Int := if x.a.evr (cntQ ar) = true ∧ x.b.evr (cntQ ar) = true then 0 else 41
set_option maxRecDepth 100000 in
set_option maxHeartbeats 8000000 in
theorem rgOwn_any (bA bM : Nat) (R : List ByteArray) (ar : ByteArray → Int) (m1 m2 : Nat) (x : St) (va vb vd ve vc : Value) (vk : Nat → Value) (w0 W : World) (hx : StVals w0 x va vb vd ve vc vk) (hf : x.fine) (hr : x.rng) (hB : Below w0.heap.size w0 W) (hA : ArOf W bA ar m1) (hM : NumsOf W bM R m2) (hfew : x.cases.length ≤ 1000000) :
    Calls Tryd.prog 14 #[stVal x va vb vd ve vc, .map (some bA), .map (some bM)] W (Gives (.int .i64 (x.rown R ar)) W) := by
  obtain ⟨aa, ca, rfl, -⟩ := hx.a.form
  obtain ⟨ab, cb, rfl, -⟩ := hx.b.form
  obtain ⟨ad, cd, rfl, -⟩ := hx.d.form
  obtain ⟨ae, ce, rfl, -⟩ := hx.e.form
  obtain ⟨ac, cc, rfl, hcc1, hcc2⟩ := hx.c.form
  have hxa := hx.a
  have hxb := hx.b
  have hxc := hx.c
  have hxk := hx.k
  obtain ⟨na, hna⟩ : ∃ n, n = x.a.args.length := ⟨_, rfl⟩
  obtain ⟨nb, hnb⟩ : ∃ n, n = x.b.args.length := ⟨_, rfl⟩
  obtain ⟨nd, hnd⟩ : ∃ n, n = x.body.length := ⟨_, rfl⟩
  obtain ⟨ne, hne⟩ : ∃ n, n = x.els.length := ⟨_, rfl⟩
  obtain ⟨nc, hnc⟩ : ∃ n, n = x.cases.length := ⟨_, rfl⟩
  rw [← hna] at hxa
  rw [← hnb] at hxb
  rw [← hnc] at hcc1 hfew hxc
  rw [← hna, ← hnb, ← hnd, ← hne, ← hnc]
  have hfa : x.a.short := ((St.fine_eq x).1 hf).2.1
  have hfb : x.b.short := ((St.fine_eq x).1 hf).2.2.1
  have Hf := Lib.hid (And.intro hfa (And.intro hfb (And.intro hxa (And.intro hxb (And.intro hxc hxk)))))
  have Hrc : Hid (∀ (k : Nat) y, x.cases[k]? = some y → in64 y.n) := fun k y hy => ((Cs.rng_eq y).1 (Cs.rngs_at ((St.rng_eq x).1 hr).2.2.2.2.2 hy)).1
  have Hn := Lib.hid (And.intro hna (And.intro hnb hnc))
  have HB := Lib.hid hB
  have Hfew := Lib.hid hfew
  have hnc62 : nc ≤ 9223372036854775807 := by omega
  obtain ⟨r, hrr⟩ : ∃ r, r = x.rown R ar := ⟨_, rfl⟩
  rw [← hrr]
  have Hr : Hid (r = if x.kind = 2 ∧ (x.n < 1 ∨ 1024 < x.n) then 1 else if x.kind = 6 ∧ twiceN x.cases [] = true then 9 else if x.kind = 7 ∧ ¬ (x.a.evr (bndQ R) = true ∧ x.b.evr (bndQ R) = true) then 42 else tailE ar x) := by
    show _ = _
    rw [hrr]; unfold St.rown tailE; rfl
  obtain ⟨W1, hW1⟩ : ∃ W1, W1 = (W.alloc (.cells #[.int .i64 x.kind, .string x.name, .int .i64 x.n, .int .i64 x.a.kind, .int .i64 x.a.n, .string x.a.name, .slice aa na ca, .int .i64 x.b.kind, .int .i64 x.b.n, .string x.b.name, .slice ab nb cb, .slice ad nd cd, .slice ae ne ce, .slice ac nc cc] 56)).alloc (.cells #[.map (some bA)] 60) := ⟨_, rfl⟩
  obtain ⟨D, hD⟩ : ∃ D, D = W.heap.size := ⟨_, rfl⟩
  have hb1 : Below W.heap.size W W1 := by rw [hW1]; exact ((Below.refl _ _).alloc (Nat.le_refl _) _).alloc (by (try simp only [World.size_alloc]); (try simp only [size_set]); omega) _
  have hs1 : StAt W1 D 0 x (.slice aa na ca) (.slice ab nb cb) (.slice ad nd cd) (.slice ae ne ce) (.slice ac nc cc) := by
    rw [hW1, hD]
    exact (StAt.box W x _ _ _ _ _ _).later ((Below.refl _ _).alloc (Nat.le_refl _) _) (by simp)
  have hc1 : W1.cell? ⟨D + 1, 0, none⟩ = some (.map (some bA)) := by rw [hW1, hD]; exact World.cell?_alloc_at _ _ _ _ (by simp)
  have hz1 : D + 2 ≤ W1.heap.size ∧ W1.heap.size ≤ D + 2 := by rw [hW1, hD]; simp
  have H1 := Lib.hid (And.intro hb1 (And.intro hs1 (And.intro hc1 (And.intro (hA.later hb1) (hM.later hb1)))))
  have HW1 := Lib.hid (And.intro hW1 hD)
  have hDW : W.heap.size ≤ D := by omega
  clear hx hf hr hB hA hM hfew hxa hxb hxc hxk hna hnb hnd hne hnc hfa hfb hrr hW1 hD hb1 hs1 hc1 hcc1 hcc2
  unfold stVal
  go_enter Tryd.func14, Tryd.ntmps14
  go_upto_region 1 with (fail)
  rw [← HW1.out.1, ← HW1.out.2]
  obtain ⟨i0, i1, i2, i3, i4, i5, i6, i7, i8, i9, i10, i11, i12, i13⟩ := H1.out.2.1
  simp only [Nat.zero_add] at i0 i1 i2 i3 i4 i5 i6 i7 i8 i9 i10 i11 i12 i13
  clear i1 i11 i12
  go_upto_block 0 with (fail)
  obtain ⟨kk, hkk⟩ : ∃ kk, kk = x.kind := ⟨_, rfl⟩
  rw [← hkk] at i0 Hr ⊢
  obtain ⟨nn, hnn⟩ : ∃ nn, nn = x.n := ⟨_, rfl⟩
  rw [← hnn] at i2 Hr ⊢
  have Hk := Lib.hid (And.intro hkk hnn)
  clear hkk hnn
  go_cut [] (fun wc => r = tailE ar x ∧ Below W1.heap.size W1 wc)
  case first =>
    by_cases h2 : kk = 2
    · subst h2
      clear i3 i4 i5 i6 i7 i8 i9 i10 i13
      by_cases h1 : nn < 1
      · have hq : decide (nn < 1) = true := decide_eq_true h1
        have Hres : Hid (r = 1) := by show _ = _; rw [Hr.out, if_pos ⟨rfl, .inl h1⟩]
        --<A
        go_wp2_with fail
        go_ret
        exact ⟨by rw [Hres.out]; try rfl, H1.out.1⟩
        --A>
      · have hq : decide (nn < 1) = false := decide_eq_false h1
        by_cases h3 : 1024 < nn
        · have hq2 : decide (1024 < nn) = true := decide_eq_true h3
          have Hres : Hid (r = 1) := by show _ = _; rw [Hr.out, if_pos ⟨rfl, .inr h3⟩]
          --<A
          go_wp2_with fail
          go_ret
          exact ⟨by rw [Hres.out]; try rfl, H1.out.1⟩
          --A>
        · have hq2 : decide (1024 < nn) = false := decide_eq_false h3
          have Hres : Hid (r = tailE ar x) := by show _ = _; rw [Hr.out, if_neg (by rintro ⟨_, h | h⟩ <;> contradiction), if_neg (by rintro ⟨h, _⟩; cases h), if_neg (by rintro ⟨h, _⟩; cases h)]
          --<A
          go_wp2_with fail
          go_meet
          case rel => exact ⟨Hres.out, Below.refl _ _⟩
          --A>
    · by_cases h6 : kk = 6
      · subst h6
        clear i2 i3 i4 i5 i6 i7 i8 i9 i10
        have Hr6 : Hid (r = if twiceN x.cases [] = true then 9 else tailE ar x) := by
          show _ = _
          rw [Hr.out, if_neg (by rintro ⟨h, _⟩; cases h)]
          by_cases h : twiceN x.cases [] = true
          · rw [if_pos ⟨rfl, h⟩, if_pos h]
          · rw [if_neg (by rintro ⟨_, h'⟩; exact h h'), if_neg (by rintro ⟨h, _⟩; cases h), if_neg h]
        --<B
        obtain ⟨W2, hW2⟩ : ∃ W2, W2 = W1.alloc (.map #[] 0) := ⟨_, rfl⟩
        obtain ⟨bs, hbs⟩ : ∃ b, b = W1.heap.size := ⟨_, rfl⟩
        have hb2 : Below W1.heap.size W1 W2 := by rw [hW2]; exact (Below.refl _ _).alloc (Nat.le_refl _) _
        have hm2 : IMap 2 W2 bs [] (fun _ => 0) := by rw [hW2, hbs]; exact IMap.made _ W1
        have H2 := Lib.hid (And.intro hb2 hm2)
        have i13' := (hb2.cell (p := ⟨D, 13, none⟩) (by show D < _; omega)).trans i13
        have HW2 := Lib.hid (And.intro hW2 hbs)
        have hbsl : W1.heap.size ≤ bs := by omega
        have hmm := @run_makeMap Tryd.prog
        clear hW2 hbs hb2 hm2 h2
        go_upto_region 7 with (fail)
        rw [← HW2.out.1, ← HW2.out.2]
        clear i13 i0
        go_wp2_with fail
        clear i13'
        go_loopg [30] nc (fun g iv wx => ∃ (j : Nat) (S : List Int) (F : Int → Int), g = nc - j ∧ iv = .int .i64 (j : Int) ∧ j ≤ nc ∧ twiceN (x.cases.take j) [] = false ∧ Below W1.heap.size W1 wx ∧ IMap 2 wx bs S F ∧ (∀ y, y ∈ S ↔ y ∈ (x.cases.take j).map (·.n)) ∧ (∀ y, y ∈ S → F y = 1) ∧ (∀ y, y ∉ S → F y = 0) ∧ S.length ≤ j)
        case atStart => exact ⟨0, [], fun _ => 0, rfl, rfl, Nat.zero_le _, rfl, H2.out.1, H2.out.2, by simp, by simp, by simp, by simp⟩
        case round =>
          obtain ⟨j, S, F, hg, rfl, hj, htw, hb, hm, hS, hF1, hF0, hSl⟩ := hrel
          have HK := Lib.hid (And.intro htw (And.intro hb (And.intro hm (And.intro hS (And.intro hF1 hF0)))))
          have Hg := Lib.hid hg
          clear htw hm hS hF1 hF0 hg
          by_cases hjn : j < nc
          · obtain ⟨y, hy⟩ : ∃ y, x.cases[j]? = some y := ⟨_, List.getElem?_eq_getElem (by rw [← Hn.out.2.2]; exact hjn)⟩
            obtain ⟨bc, oc, rfl, hbc, hPc⟩ := Hf.out.2.2.2.2.1.at (i := j) hjn
            have hb0 : Below w0.heap.size w0 wr := HB.out.trans ((H1.out.1.trans (hb.mono H1.out.1.size)).mono HB.out.size)
            have hcs := (hPc y hy).later hb0 hbc
            obtain ⟨ay, cy, hvy, -⟩ := (Hf.out.2.2.2.2.2 j y hy).form
            obtain ⟨ny, hny⟩ : ∃ n, n = y.body.length := ⟨_, rfl⟩
            rw [hvy, ← hny] at hcs
            obtain ⟨z, hz⟩ : ∃ z, z = y.n := ⟨_, rfl⟩
            have hzr := Hrc.out j y hy
            obtain ⟨j0, j1⟩ := hcs
            rw [← hz] at j0 hzr
            have hzr2 : -9223372036854775808 ≤ z ∧ z ≤ 9223372036854775807 := hzr
            have Htn : Hid (twiceN (x.cases.take (j + 1)) [] = decide (z ∈ S) ∧ ∀ u, u ∈ (x.cases.take (j + 1)).map (·.n) ↔ u ∈ S ∨ u = z) := by
              refine ⟨?_, fun u => ?_⟩
              · rw [twiceN_next hy, HK.out.1, ← hz, Bool.false_or]
                exact decide_eq_decide.2 (HK.out.2.2.2.1 z).symm
              · rw [take_next hy, List.map_append, List.mem_append, HK.out.2.2.2.1, hz]
                simp
            obtain ⟨W3, hW3⟩ : ∃ W3, W3 = wr.alloc (.cells #[.int .i64 z, .slice ay ny cy] 90) := ⟨_, rfl⟩
            obtain ⟨D3, hD3⟩ : ∃ D, D = wr.heap.size := ⟨_, rfl⟩
            have hb3 : Below wr.heap.size wr W3 := by rw [hW3]; exact (Below.refl _ _).alloc (Nat.le_refl _) _
            have hc3 : W3.cell? ⟨D3, 0, none⟩ = some (.int .i64 z) := by rw [hW3, hD3]; exact World.cell?_alloc_at _ _ _ _ rfl
            have hm3 := HK.out.2.2.1.later hb3 HK.out.2.2.1.lt
            have hbs3 := HK.out.2.2.1.lt
            have hne : D3 ≠ bs := by omega
            have hD3l : D3 < W3.heap.size := by rw [hW3, hD3]; simp
            have H3 := Lib.hid (And.intro (hb.trans (hb3.mono hb.size)) hm3)
            have HW3 := Lib.hid (And.intro hW3 hD3)
            have hSl2 : S.length ≤ 1000000 := by have := Hfew.out; omega
            have Hy := Lib.hid (And.intro hy hz)
            clear hy hPc hvy hny hz hzr hb hb0 hW3 hD3 hb3 hm3 hbc
            go_upto_region 10 with (fail)
            rw [← HW3.out.1, ← HW3.out.2]
            clear j0 j1
            by_cases hzS : z ∈ S
            · have hz1 : F z = 1 := HK.out.2.2.2.2.1 z hzS
              have Hz1 := Lib.hid hz1
              have Hres : Hid (r = 9) := by
                show _ = _
                rw [Hr6.out, if_pos (twiceN_stop (j + 1) (by rw [Htn.out.1]; exact decide_eq_true hzS))]
              clear hz1 hzS
              go_upto_region 11 with (first
                | (at_lookup; refine im_look u64 (t := 88) Tryd.underlying88 (by kernel_rfl) rfl _ _ rfl bs S F rfl H3.out.2 z rfl hzr2 1 Hz1.out ?_)
                | (at_mapUpdate; refine im_put u64 (t := 88) Tryd.underlying88 rfl _ _ _ rfl bs S F rfl H3.out.2 z rfl 2 rfl hzr2 hSl2 ?_; intro w5 hm5 hg5; have H5 := Lib.hid (And.intro hm5 hg5); have hc5 := ((Oth.of_grown hg5).cell (p := ⟨D3, 0, none⟩) hD3l hne).trans hc3; clear hm5 hg5))
              go_wp2_with (at_lookup; refine im_look u64 (t := 88) Tryd.underlying88 (by kernel_rfl) rfl _ _ rfl bs _ _ rfl H5.out.1 z rfl hzr2 2 (if_pos rfl) ?_)
              go_ret
              exact ⟨by rw [Hres.out]; try rfl, H1.out.1.trans ((H3.out.1.trans ((Oth.of_grown H5.out.2).below (Nat.le_trans H3.out.1.size (Nat.le_refl _)) (fun b (e : b = bs) => by omega))).mono H1.out.1.size)⟩
            · have hz0 : F z = 0 := HK.out.2.2.2.2.2 z hzS
              have Hz0 := Lib.hid (And.intro hz0 hzS)
              clear hz0 hzS
              go_upto_region 11 with (first
                | (at_lookup; refine im_look u64 (t := 88) Tryd.underlying88 (by kernel_rfl) rfl _ _ rfl bs S F rfl H3.out.2 z rfl hzr2 0 Hz0.out.1 ?_)
                | (at_mapUpdate; refine im_put u64 (t := 88) Tryd.underlying88 rfl _ _ _ rfl bs S F rfl H3.out.2 z rfl 1 rfl hzr2 hSl2 ?_; intro w5 hm5 hg5; have H5 := Lib.hid (And.intro hm5 hg5); have hc5 := ((Oth.of_grown hg5).cell (p := ⟨D3, 0, none⟩) hD3l hne).trans hc3; clear hm5 hg5))
              go_wp2_with (at_lookup; refine im_look u64 (t := 88) Tryd.underlying88 (by kernel_rfl) rfl _ _ rfl bs _ _ rfl H5.out.1 z rfl hzr2 1 (if_pos rfl) ?_)
              go_roundg (nc - (j + 1))
              case measure => have := Hg.out; omega
              case rel =>
                refine ⟨j + 1, _, _, rfl, by go_num, hjn, by rw [Htn.out.1]; exact decide_eq_false Hz0.out.2, H3.out.1.trans ((Oth.of_grown H5.out.2).below (Nat.le_trans H3.out.1.size (Nat.le_refl _)) (fun b (e : b = bs) => by omega)), H5.out.1, fun u => ?_, fun u hu => ?_, fun u hu => ?_, ?_⟩
                · rw [insI_mem, Htn.out.2]; exact Or.comm
                · by_cases e : u = z
                  · exact if_pos e
                  · show (if u = z then (1 : Int) else F u) = 1
                    rw [if_neg e]
                    exact HK.out.2.2.2.2.1 u (by rcases (insI_mem _ _ _).1 hu with h | h; exact absurd h e; exact h)
                · have e : u ≠ z := fun e => hu ((insI_mem _ _ _).2 (.inl e))
                  show (if u = z then (1 : Int) else F u) = 0
                  rw [if_neg e]
                  exact HK.out.2.2.2.2.2 u (fun h => hu ((insI_mem _ _ _).2 (.inr h)))
                · unfold insI
                  split
                  · omega
                  · simp only [List.length_cons]; omega
          · obtain rfl : nc = j := by omega
            have Hres : Hid (r = tailE ar x) := by
              show _ = _
              have h := HK.out.1
              rw [List.take_of_length_le (by rw [← Hn.out.2.2]; exact Nat.le_refl _)] at h
              rw [Hr6.out, h]
              rfl
            clear hjn
            go_wp2_with fail
            go_meet
            case rel => exact ⟨Hres.out, hb⟩
        --B>
      · by_cases h7 : kk = 7
        · subst h7
          have hB1 : Below w0.heap.size w0 W1 := HB.out.trans (H1.out.1.mono HB.out.size)
          have Hr7 : Hid (r = if x.a.evr (bndQ R) = true ∧ x.b.evr (bndQ R) = true then tailE ar x else 42) := by
            show _ = _
            rw [Hr.out, if_neg (by rintro ⟨h, _⟩; cases h), if_neg (by rintro ⟨h, _⟩; cases h)]
            by_cases h : x.a.evr (bndQ R) = true ∧ x.b.evr (bndQ R) = true
            · rw [if_neg (by rintro ⟨_, h'⟩; exact h' h), if_pos h]
            · rw [if_pos ⟨rfl, h⟩, if_neg h]
          have Hca := Lib.hid (bound_any bM R m2 x.a _ w0 W1 Hf.out.2.2.1 Hf.out.1 hB1 H1.out.2.2.2.2)
          unfold exVal at Hca
          clear i2 i13
          --<C
          go_wp2_with fail
          refine Hca.out.mono ?_
          rintro e w2 ⟨rfl, hb2⟩
          obtain ⟨z, hz⟩ : ∃ z, z = x.a.evr (bndQ R) := ⟨_, rfl⟩
          have Hz := Lib.hid hz
          rw [← hz]
          have H2 := Lib.hid hb2
          have hDl : D < W1.heap.size := by omega
          have i7' := (hb2.cell (p := ⟨D, 7, none⟩) hDl).trans i7
          have i8' := (hb2.cell (p := ⟨D, 8, none⟩) hDl).trans i8
          have i9' := (hb2.cell (p := ⟨D, 9, none⟩) hDl).trans i9
          have i10' := (hb2.cell (p := ⟨D, 10, none⟩) hDl).trans i10
          clear hz hb2 Hca h2 h6 i0 i3 i4 i5 i6 i7 i8 i9 i10
          cases z
          · have Hres : Hid (r = 42) := by show _ = _; rw [Hr7.out, ← Hz.out, if_neg (by rintro ⟨h, _⟩; cases h)]
            go_wp2_with fail
            go_ret
            exact ⟨by rw [Hres.out]; try rfl, H1.out.1.trans (H2.out.mono H1.out.1.size)⟩
          · have Hcb := Lib.hid (bound_any bM R m2 x.b _ w0 w2 Hf.out.2.2.2.1 Hf.out.2.1 (hB1.trans (H2.out.mono hB1.size)) (H1.out.2.2.2.2.later H2.out))
            unfold exVal at Hcb
            go_wp2_with fail
            refine Hcb.out.mono ?_
            rintro e w3 ⟨rfl, hb3⟩
            obtain ⟨z, hz⟩ : ∃ z, z = x.b.evr (bndQ R) := ⟨_, rfl⟩
            have Hz2 := Lib.hid hz
            rw [← hz]
            have H3 := Lib.hid (H2.out.trans (hb3.mono H2.out.size))
            clear hz hb3 Hcb i7' i8' i9' i10'
            cases z
            · have Hres : Hid (r = 42) := by show _ = _; rw [Hr7.out, ← Hz2.out, if_neg (by rintro ⟨_, h⟩; cases h)]
              go_wp2_with fail
              go_ret
              exact ⟨by rw [Hres.out]; try rfl, H1.out.1.trans (H3.out.mono H1.out.1.size)⟩
            · have Hres : Hid (r = tailE ar x) := by show _ = _; rw [Hr7.out, ← Hz.out, ← Hz2.out, if_pos ⟨rfl, rfl⟩]
              go_wp2_with fail
              go_meet
              case rel => exact ⟨Hres.out, H3.out⟩
          --C>
        · have q2 : (kk == 2) = false := by simp [h2]
          have q6 : (kk == 6) = false := by simp [h6]
          have q7 : (kk == 7) = false := by simp [h7]
          have Hres : Hid (r = tailE ar x) := by show _ = _; rw [Hr.out, if_neg (by rintro ⟨h, _⟩; exact h2 h), if_neg (by rintro ⟨h, _⟩; exact h6 h), if_neg (by rintro ⟨h, _⟩; exact h7 h)]
          clear h2 h6 h7 i2 i3 i4 i5 i6 i7 i8 i9 i10 i13
          --<A
          go_wp2_with fail
          go_meet
          case rel => exact ⟨Hres.out, Below.refl _ _⟩
          --A>
  case rest =>
    obtain ⟨hrt, hbw⟩ := hcut
    obtain ⟨V, hVV⟩ : ∃ V : World, V = wc := ⟨_, rfl⟩
    subst hVV
    have Hrt := Lib.hid hrt
    have HW := Lib.hid (H1.out.1.trans (hbw.mono H1.out.1.size))
    have hst := H1.out.2.1.later hbw (by omega)
    have har := (hbw.cell (p := ⟨D + 1, 0, none⟩) (by show D + 1 < _; omega)).trans H1.out.2.2.1
    have hA := H1.out.2.2.2.1.later hbw
    have hzV := hbw.size
    clear i0 i2 i3 i4 i5 i6 i7 i8 i9 i10 i13 hrt hbw Hr
    obtain ⟨i0, i1, i2, i3, i4, i5, i6, i7, i8, i9, i10, i11, i12, i13⟩ := hst
    simp only [Nat.zero_add] at i0 i1 i2 i3 i4 i5 i6 i7 i8 i9 i10 i11 i12 i13
    clear i0 i1 i2 i11 i12 i13
    obtain ⟨E, hE⟩ : ∃ E, E = V.heap.size := ⟨_, rfl⟩
    obtain ⟨W3, hW3⟩ : ∃ W3, W3 = V.alloc (.cells #[.int .i64 x.a.kind, .int .i64 x.a.n, .string x.a.name, .slice aa na ca, .int .i64 x.b.kind, .int .i64 x.b.n, .string x.b.name, .slice ab nb cb] 53) := ⟨_, rfl⟩
    have hb3 : Below V.heap.size V W3 := by rw [hW3]; exact (Below.refl _ _).alloc (Nat.le_refl _) _
    have hea : ExAt W3 E 0 x.a (.slice aa na ca) := by rw [hW3, hE]; constructor <;> exact World.cell?_alloc_at _ _ _ _ rfl
    have heb : ExAt W3 E 4 x.b (.slice ab nb cb) := by rw [hW3, hE]; constructor <;> exact World.cell?_alloc_at _ _ _ _ rfl
    have har3 := (hb3.cell (p := ⟨D + 1, 0, none⟩) (by show D + 1 < _; omega)).trans har
    have hA3 := hA.later hb3
    have hEl : E < W3.heap.size := by rw [hW3, hE]; simp
    have H3 := Lib.hid (And.intro (HW.out.trans (hb3.mono HW.out.size)) (And.intro hea (And.intro heb (And.intro har3 hA3))))
    have HW3 := Lib.hid (And.intro hW3 hE)
    have hDE : D + 1 < E := by omega
    clear hW3 hE hb3 hea heb har3 hA3 hA har
    go_upto_region 17 with (fail)
    go_wp2_with fail
    rw [← HW3.out.1, ← HW3.out.2]
    clear i3 i4 i5 i6 i7 i8 i9 i10
    --<D
    go_loopg [65] 2 (fun g jv wx => ∃ j : Nat, g = 2 - j ∧ jv = .int .i64 (j : Int) ∧ j ≤ 2 ∧ (0 < j → x.a.evr (cntQ ar) = true) ∧ (1 < j → x.b.evr (cntQ ar) = true) ∧ Below W3.heap.size W3 wx)
    case atStart => exact ⟨0, rfl, rfl, by omega, by omega, by omega, Below.refl _ _⟩
    case round =>
      obtain ⟨j, hg2, rfl, hj, hp0, hp1, hO⟩ := hrel
      have HK := Lib.hid (And.intro hp0 (And.intro hp1 hO))
      have Hg := Lib.hid hg2
      clear hp0 hp1 hg2
      by_cases hj2 : j < 2
      · obtain ⟨y, ay, ny, cy, hey, hny, hcall, hnext, hstop⟩ : ∃ y ay ny cy, ExAt W3 E (j * 4) y (.slice ay ny cy) ∧ y.short ∧ ExsIn w0 y.args (.slice ay ny cy) ∧ (y.evr (cntQ ar) = true → (0 < j + 1 → x.a.evr (cntQ ar) = true) ∧ (1 < j + 1 → x.b.evr (cntQ ar) = true)) ∧ (y.evr (cntQ ar) = false → r = 41) := by
          rcases (by omega : j = 0 ∨ j = 1) with rfl | rfl
          · refine ⟨x.a, aa, na, ca, H3.out.2.1, Hf.out.1, Hf.out.2.2.1, fun h => ⟨fun _ => h, fun h => by omega⟩, fun h => ?_⟩
            rw [Hrt.out]; unfold tailE; rw [if_neg (by rintro ⟨h', _⟩; rw [h] at h'; cases h')]
          · refine ⟨x.b, ab, nb, cb, H3.out.2.2.1, Hf.out.2.1, Hf.out.2.2.2.1, fun h => ⟨fun _ => HK.out.1 (by omega), fun _ => h⟩, fun h => ?_⟩
            rw [Hrt.out]; unfold tailE; rw [if_neg (by rintro ⟨_, h'⟩; rw [h] at h'; cases h')]
        obtain ⟨c0, c1, c2, c3⟩ := hey.later hO hEl
        have hDw : W3.heap.size ≤ wr.heap.size := hO.size
        obtain ⟨W4, hW4⟩ : ∃ W4, W4 = wr.alloc (.cells #[.int .i64 y.kind, .int .i64 y.n, .string y.name, .slice ay ny cy] 53) := ⟨_, rfl⟩
        have hb4 : Below wr.heap.size wr W4 := by rw [hW4]; exact (Below.refl _ _).alloc (Nat.le_refl _) _
        have he4 : ExAt W4 wr.heap.size 0 y (.slice ay ny cy) := by rw [hW4]; exact ExAt.boxed _ _ _ _
        have hb04 : Below W3.heap.size W3 W4 := hO.trans (hb4.mono hO.size)
        have hbw4 : Below W.heap.size W W4 := H3.out.1.trans (hb04.mono H3.out.1.size)
        have Hcall := Lib.hid (every_any _ _ _ _ (own1_asks (D + 1) bA ar m1) w0 _ _ hcall y rfl hny W4 (HB.out.trans (hbw4.mono HB.out.size)) ⟨(hb04.cell (p := ⟨D + 1, 0, none⟩) (by show D + 1 < _; omega)).trans H3.out.2.2.2.1, H3.out.2.2.2.2.later hb04⟩)
        unfold exVal at Hcall
        have H4 := Lib.hid (And.intro hb04 hbw4)
        have HW4 := Lib.hid hW4
        have Hy := Lib.hid (And.intro hnext hstop)
        clear hey hny hcall hnext hstop hO hW4 hb4 hb04 hbw4
        go_upto_region 20 with (fail)
        rw [← HW4.out]
        clear c0 c1 c2 c3
        obtain ⟨d0, d1, d2, d3⟩ := he4
        go_wp2_with fail
        refine Hcall.out.mono ?_
        rintro e w5 ⟨rfl, hb5⟩
        obtain ⟨z, hz⟩ : ∃ z, z = y.evr (cntQ ar) := ⟨_, rfl⟩
        have Hz := Lib.hid hz
        rw [← hz]
        have H5 := Lib.hid (And.intro (H4.out.1.trans (hb5.mono H4.out.1.size)) (H4.out.2.trans (hb5.mono H4.out.2.size)))
        clear hz hb5 d0 d1 d2 d3 Hcall
        cases z
        · have Hres : Hid (r = 41) := Hy.out.2 Hz.out.symm
          go_wp2_with fail
          go_ret
          exact ⟨by rw [Hres.out]; try rfl, H5.out.2⟩
        · go_wp2_with fail
          go_roundg (2 - (j + 1))
          case measure => have := Hg.out; omega
          case rel => exact ⟨j + 1, rfl, by go_num, by omega, (Hy.out.1 Hz.out.symm).1, (Hy.out.1 Hz.out.symm).2, H5.out.1⟩
      · obtain rfl : j = 2 := by omega
        have Hres : Hid (r = 0) := by
          show _ = _
          rw [Hrt.out]; unfold tailE; rw [if_pos ⟨HK.out.1 (by omega), HK.out.2.1 (by omega)⟩]
        clear hO hj2
        go_wp2_with fail
        go_ret
        exact ⟨by rw [Hres.out]; try rfl, H3.out.1.trans (HK.out.2.2.mono H3.out.1.size)⟩
    --D>
end Go.Proofs.YtgobcldecokppaaDoor

namespace Go.Proofs.YtgobcldecokppaaDoor
open Go.RowKit Go.Maps

/-- What Check's closures hold: the number of the statement, what is wrong, the two maps. -/
structure ChkI (ar : ByteArray → Int) (bAt bAr bMy bE mA mM K : Nat) (g : Nat) (s : ChkS) (V : World) : Prop where
  cAt : V.cell? ⟨bAt, 0, none⟩ = some (.int .i64 (s.2.1 : Int))
  fAt : V.frozen? ⟨bAt, 0, none⟩ = false
  cE : V.cell? ⟨bE, 0, none⟩ = some (.int .i64 s.2.2)
  fE : V.frozen? ⟨bE, 0, none⟩ = false
  cAr : V.cell? ⟨bAr, 0, none⟩ = some (.map (some mA))
  cMy : V.cell? ⟨bMy, 0, none⟩ = some (.map (some mM))
  arity : ArOf V mA ar K
  may : NumsOf V mM s.1 (s.2.1 + 8)
  few : s.2.1 + g ≤ 5000
structure ChkOrd (bAt bAr bMy bE mA mM : Nat) : Prop where
  o1 : mA < bAr
  o2 : bAr < mM
  o3 : mM < bMy
  o4 : bMy < bAt
  o5 : bAt < bE
section
variable {ar : ByteArray → Int} {bAt bAr bMy bE mA mM K g g' : Nat} {s : ChkS} {V V' : World}
theorem ChkI.later (h : ChkI ar bAt bAr bMy bE mA mM K g s V) (hg : g' ≤ g) (hb : Below V.heap.size V V') : ChkI ar bAt bAr bMy bE mA mM K g' s V' :=
  ⟨(hb.cell (p := ⟨bAt, 0, none⟩) (block_lt_of_cell h.cAt)).trans h.cAt, (hb.frozen (p := ⟨bAt, 0, none⟩) (block_lt_of_cell h.cAt)).trans h.fAt, (hb.cell (p := ⟨bE, 0, none⟩) (block_lt_of_cell h.cE)).trans h.cE, (hb.frozen (p := ⟨bE, 0, none⟩) (block_lt_of_cell h.cE)).trans h.fE,
    (hb.cell (p := ⟨bAr, 0, none⟩) (block_lt_of_cell h.cAr)).trans h.cAr, (hb.cell (p := ⟨bMy, 0, none⟩) (block_lt_of_cell h.cMy)).trans h.cMy, h.arity.later hb, h.may.later hb, by have := h.few; omega⟩
theorem ChkI.setAt (o : ChkOrd bAt bAr bMy bE mA mM) (h : ChkI ar bAt bAr bMy bE mA mM K (g + 1) s V) : ChkI ar bAt bAr bMy bE mA mM K g (s.1, s.2.1 + 1, s.2.2) (V.setCell ⟨bAt, 0, none⟩ (.int .i64 ((s.2.1 + 1 : Nat) : Int))) := by
  have k : ∀ (p : Addr) (v : Value), p.block ≠ bAt → V.cell? p = some v → (V.setCell ⟨bAt, 0, none⟩ (.int .i64 ((s.2.1 + 1 : Nat) : Int))).cell? p = some v := fun p v hp hv => by
    have e := (Oth.refl (· = bAt) V).set (p := ⟨bAt, 0, none⟩) rfl (.int .i64 ((s.2.1 + 1 : Nat) : Int))
    rw [e.cell (block_lt_of_cell hv) hp]; exact hv
  have e := (Oth.refl (· = bAt) V).set (p := ⟨bAt, 0, none⟩) rfl (.int .i64 ((s.2.1 + 1 : Nat) : Int))
  obtain ⟨o1, o2, o3, o4, o5⟩ := o
  refine ⟨World.cell?_setCell_same' _ _ _ (by rw [h.cAt]; rfl), (World.frozen?_setCell _ _ _ _).trans h.fAt, k _ _ (by show bE ≠ bAt; omega) h.cE, (World.frozen?_setCell _ _ _ _).trans h.fE, k _ _ (by show bAr ≠ bAt; omega) h.cAr, k _ _ (by show bMy ≠ bAt; omega) h.cMy,
    h.arity.at_block (e.block mA h.arity.lt (by omega)), ?_, by have := h.few; show s.2.1 + 1 + g ≤ 5000; omega⟩
  obtain ⟨S, F, h1, h2, h3, h4, h5⟩ := h.may.at_block (e.block mM h.may.lt (by omega))
  refine ⟨S, F, h1, h2, fun y hy => ?_, h4, by show _ ≤ s.2.1 + 1 + 8; omega⟩
  have := h3 y hy
  show _ ∧ F y ≤ ((s.2.1 + 1 + 8 : Nat) : Int)
  omega
theorem ChkI.setE (o : ChkOrd bAt bAr bMy bE mA mM) (h : ChkI ar bAt bAr bMy bE mA mM K g s V) (z : Int) : ChkI ar bAt bAr bMy bE mA mM K g (s.1, s.2.1, z) (V.setCell ⟨bE, 0, none⟩ (.int .i64 z)) := by
  have e := (Oth.refl (· = bE) V).set (p := ⟨bE, 0, none⟩) rfl (.int .i64 z)
  have k : ∀ (p : Addr) (v : Value), p.block ≠ bE → V.cell? p = some v → (V.setCell ⟨bE, 0, none⟩ (.int .i64 z)).cell? p = some v := fun p v hp hv => by
    rw [e.cell (block_lt_of_cell hv) hp]; exact hv
  obtain ⟨o1, o2, o3, o4, o5⟩ := o
  exact ⟨k _ _ (by show bAt ≠ bE; omega) h.cAt, (World.frozen?_setCell _ _ _ _).trans h.fAt, World.cell?_setCell_same' _ _ _ (by rw [h.cE]; rfl), (World.frozen?_setCell _ _ _ _).trans h.fE, k _ _ (by show bAr ≠ bE; omega) h.cAr, k _ _ (by show bMy ≠ bE; omega) h.cMy,
    h.arity.at_block (e.block mA h.arity.lt (by omega)), h.may.at_block (e.block mM h.may.lt (by omega)), h.few⟩
theorem ChkI.setMay (o : ChkOrd bAt bAr bMy bE mA mM) (h : ChkI ar bAt bAr bMy bE mA mM K g s V) {R : List ByteArray} (hO : Oth (· = mM) V V') (hN : NumsOf V' mM R (s.2.1 + 8)) : ChkI ar bAt bAr bMy bE mA mM K g (R, s.2.1, s.2.2) V' := by
  have k : ∀ (p : Addr) (v : Value), p.block ≠ mM → V.cell? p = some v → V'.cell? p = some v := fun p v hp hv => by
    rw [hO.cell (block_lt_of_cell hv) hp]; exact hv
  obtain ⟨o1, o2, o3, o4, o5⟩ := o
  exact ⟨k _ _ (by show bAt ≠ mM; omega) h.cAt, (hO.frozen (block_lt_of_cell h.cAt) (by show bAt ≠ mM; omega)).trans h.fAt, k _ _ (by show bE ≠ mM; omega) h.cE, (hO.frozen (block_lt_of_cell h.cE) (by show bE ≠ mM; omega)).trans h.fE, k _ _ (by show bAr ≠ mM; omega) h.cAr, k _ _ (by show bMy ≠ mM; omega) h.cMy,
    h.arity.at_block (hO.block mA h.arity.lt (by omega)), hN, h.few⟩
end
theorem NumsOf.put {V' : World} {b m : Nat} {R S : List ByteArray} {F : ByteArray → Int} {s : ByteArray} {z : Int} (h2 : ∀ y, y ∈ S ↔ y ∈ R) (h3 : ∀ y, y ∈ R → 1 ≤ F y ∧ F y ≤ (m : Int)) (h4 : ∀ y, y ∉ R → F y = 0) (h5 : S.length ≤ m) (hz : F s = z)
    (hm : SMap V' b (insS S s) (fun i => if i = s then z + 1 else F i)) : NumsOf V' b (R ++ [s]) (m + 1) := by
  refine ⟨_, _, hm, fun y => ?_, fun y hy => ?_, fun y hy => ?_, ?_⟩
  · rw [insS_mem, h2]; simp [Or.comm]
  · by_cases e : y = s
    · subst e
      simp only [if_true]
      by_cases hy : y ∈ R
      · have := h3 y hy; omega
      · have := h4 y hy; omega
    · simp only [if_neg e]
      have := h3 y (by simpa [e] using hy)
      omega
  · have e : y ≠ s := fun e => hy (by simp [e])
    simp only [if_neg e]
    exact h4 y fun h => hy (by simp [h])
  · unfold insS; split
    · omega
    · simp only [List.length_cons]; omega
theorem NumsOf.del {V' : World} {b m : Nat} {R S : List ByteArray} {F : ByteArray → Int} {s : ByteArray} (h2 : ∀ y, y ∈ S ↔ y ∈ R) (h3 : ∀ y, y ∈ R → 1 ≤ F y ∧ F y ≤ (m : Int)) (h4 : ∀ y, y ∉ R → F y = 0) (h5 : S.length ≤ m)
    (hm : SMap V' b (S.filter fun i => decide (i ≠ s)) (fun i => if i = s then 0 else F i)) : NumsOf V' b (R.filter fun y => decide (y ≠ s)) m := by
  refine ⟨_, _, hm, fun y => ?_, fun y hy => ?_, fun y hy => ?_, ?_⟩
  · rw [List.mem_filter, List.mem_filter, h2]
  · rw [List.mem_filter] at hy
    have e : y ≠ s := of_decide_eq_true hy.2
    simp only [if_neg e]
    exact h3 y hy.1
  · by_cases e : y = s
    · simp only [if_pos e]
    · simp only [if_neg e]
      exact h4 y fun h => hy (List.mem_filter.2 ⟨h, decide_eq_true e⟩)
  · have := List.length_filter_le (fun i => decide (i ≠ s)) S; omega
set_option maxRecDepth 100000 in
set_option maxHeartbeats 4000000 in
theorem chk1_any (ar : ByteArray → Int) (bAt bAr bMy bE mA mM K : Nat) (o : ChkOrd bAt bAr bMy bE mA mM) (g : Nat) (s : ChkS) (x : St) (va vb vd ve vc : Value) (vk : Nat → Value) (n : Int) (w0 V : World)
    (hI : ChkI ar bAt bAr bMy bE mA mM K (g + 1) s V) (hB : Below w0.heap.size w0 V) (hf : FineSt x) (hx : StVals w0 x va vb vd ve vc vk) (hlow : w0.heap.size ≤ mM) :
    Calls Tryd.prog 13 #[stVal x va vb vd ve vc, .int .i64 n, .pointer (some ⟨bAt, 0, none⟩), .pointer (some ⟨bAr, 0, none⟩), .pointer (some ⟨bMy, 0, none⟩), .pointer (some ⟨bE, 0, none⟩)] V
      (fun e V' => e = .returned (.bool (chkQ ar s x n).2) ∧ ChkI ar bAt bAr bMy bE mA mM K g (chkQ ar s x n).1 V' ∧ Oth (fun b => b = bAt ∨ b = bE ∨ b = mM) V V') := by
  obtain ⟨aa, ca, rfl, -⟩ := hx.a.form
  obtain ⟨ab, cb, rfl, -⟩ := hx.b.form
  obtain ⟨ad, cd, rfl, -⟩ := hx.d.form
  obtain ⟨ae, ce, rfl, -⟩ := hx.e.form
  obtain ⟨ac, cc, rfl, hcc1, hcc2⟩ := hx.c.form
  have hf0 := hf.fine
  have hsz : x.name.size ≤ 16 := St.size_of_own ((St.fine_eq x).1 hf.fine).1
  have hcall : ∀ W, Below w0.heap.size w0 W → ArOf W mA ar K → NumsOf W mM s.1 (s.2.1 + 1 + 8) → Calls Tryd.prog 14 #[stVal x (.slice aa x.a.args.length ca) (.slice ab x.b.args.length cb) (.slice ad x.body.length cd) (.slice ae x.els.length ce) (.slice ac x.cases.length cc), .map (some mA), .map (some mM)] W (Gives (.int .i64 (x.rown s.1 ar)) W) :=
    fun W h1 h2 h3 => rgOwn_any mA mM s.1 ar K _ x _ _ _ _ _ vk w0 W hx hf.fine hf.rng h1 h2 h3 hf.few
  obtain ⟨na, hna⟩ : ∃ n, n = x.a.args.length := ⟨_, rfl⟩
  obtain ⟨nb, hnb⟩ : ∃ n, n = x.b.args.length := ⟨_, rfl⟩
  obtain ⟨nd, hnd⟩ : ∃ n, n = x.body.length := ⟨_, rfl⟩
  obtain ⟨ne, hne⟩ : ∃ n, n = x.els.length := ⟨_, rfl⟩
  obtain ⟨nc, hnc⟩ : ∃ n, n = x.cases.length := ⟨_, rfl⟩
  rw [← hna, ← hnb, ← hnd, ← hne, ← hnc] at hcall
  rw [← hna, ← hnb, ← hnd, ← hne, ← hnc]
  obtain ⟨R, m, e0⟩ := s
  have hfew := hI.few
  simp only at hfew hcall
  obtain ⟨W1, hW1⟩ : ∃ W1, W1 = V.alloc (.cells #[.int .i64 x.kind, .string x.name, .int .i64 x.n, .int .i64 x.a.kind, .int .i64 x.a.n, .string x.a.name, .slice aa na ca, .int .i64 x.b.kind, .int .i64 x.b.n, .string x.b.name, .slice ab nb cb, .slice ad nd cd, .slice ae ne ce, .slice ac nc cc] 56) := ⟨_, rfl⟩
  obtain ⟨D, hD⟩ : ∃ D, D = V.heap.size := ⟨_, rfl⟩
  have hb1 : Below V.heap.size V W1 := by rw [hW1]; exact (Below.refl _ _).alloc (Nat.le_refl _) _
  have hs1 : StAt W1 D 0 x (.slice aa na ca) (.slice ab nb cb) (.slice ad nd cd) (.slice ae ne ce) (.slice ac nc cc) := by rw [hW1, hD]; exact StAt.box V x _ _ _ _ _ _
  have hI1 := hI.later (Nat.le_refl _) hb1
  have hEl : bE < V.heap.size := block_lt_of_cell hI.cE
  have hDl : D < W1.heap.size := block_lt_of_cell hs1.c0
  have hED : bE < D := by omega
  obtain ⟨W2, hW2⟩ : ∃ W2, W2 = W1.setCell ⟨bAt, 0, none⟩ (.int .i64 ((m + 1 : Nat) : Int)) := ⟨_, rfl⟩
  have hI2 : ChkI ar bAt bAr bMy bE mA mM K g (R, m + 1, e0) W2 := by rw [hW2]; exact hI1.setAt o
  have hO2 : Oth (fun b => b = bAt ∨ b = bE ∨ b = mM) V W2 := by rw [hW2]; exact (Oth.of_below hb1).set (p := ⟨bAt, 0, none⟩) (.inl rfl) _
  have hO12 : Oth (fun b => b = bAt ∨ b = bE ∨ b = mM) W1 W2 := by rw [hW2]; exact (Oth.refl _ _).set (p := ⟨bAt, 0, none⟩) (.inl rfl) _
  obtain ⟨o1, o2, o3, o4, o5⟩ := o
  have o : ChkOrd bAt bAr bMy bE mA mM := ⟨o1, o2, o3, o4, o5⟩
  have hN2 : NumsOf W2 mM R (m + 8) := by
    rw [hW2]
    exact (hI.may.later hb1).at_block (((Oth.refl (· = bAt) W1).set (p := ⟨bAt, 0, none⟩) rfl _).block mM (hI1.may.lt) (by omega))
  have hnD : ∀ b, b = bAt ∨ b = bE ∨ b = mM → b ≠ D := fun b h => by omega
  have hs2 := hs1.oth hO12 hDl (fun h => hnD D h rfl)
  have hB2 : Below w0.heap.size w0 W2 := hB.trans (hO2.below hB.size fun b hb => by omega)
  have e1 : Hid ((m : Int) + 1 = ((m + 1 : Nat) : Int)) := by show _ = _; omega
  have hDl2 : D < W2.heap.size := block_lt_of_cell hs2.c0
  have Hcall := Lib.hid (hcall W2 hB2 hI2.arity hI2.may)
  unfold stVal at Hcall
  have H2 := Lib.hid (And.intro hI2 (And.intro hO2 hs2))
  have HN2 := Lib.hid hN2
  have HW1 := Lib.hid (And.intro hW1 hD)
  have HW2 := Lib.hid hW2
  have HnD := Lib.hid hnD
  have Hq : Hid (chkQ ar (R, m, e0) x n = if x.rown R ar = 0 then ((x.radd R, m + 1, 0), true) else ((R, m + 1, x.rown R ar), false)) := rfl
  obtain ⟨q, hq⟩ : ∃ q, q = chkQ ar (R, m, e0) x n := ⟨_, rfl⟩
  rw [← hq] at Hq
  rw [← hq]
  have cAt := hI1.cAt
  have fAt := hI1.fAt
  have cAr := hI1.cAr
  have cMy := hI1.cMy
  simp only at cAt
  unfold stVal
  have hm5 : (m : Int) ≤ 5000 := by omega
  clear hN2 hI hx hf hf0 hcall hna hnb hnd hne hnc hW1 hD hb1 hs1 hI1 hW2 hI2 hO2 hO12 hnD hs2 hB2 hq hcc1 hcc2
  go_enter Tryd.func13, Tryd.ntmps13
  go_upto_region 1 with (fail)
  rw [← HW1.out.1, ← HW1.out.2]
  go_upto_region 2 with (fail)
  rw [e1.out, ← HW2.out]
  clear cAt fAt cAr cMy
  obtain ⟨i0, i1, i2, i3, i4, i5, i6, i7, i8, i9, i10, i11, i12, i13⟩ := H2.out.2.2
  simp only [Nat.zero_add] at i0 i1 i2 i3 i4 i5 i6 i7 i8 i9 i10 i11 i12 i13
  have cAr := H2.out.1.cAr
  have cMy := H2.out.1.cMy
  go_wp2_with fail
  refine Hcall.out.mono ?_
  rintro e w3 ⟨rfl, hb3⟩
  obtain ⟨z, hz⟩ : ∃ z, z = x.rown R ar := ⟨_, rfl⟩
  rw [← hz] at Hq
  rw [← hz]
  have hI3 := H2.out.1.later (Nat.le_refl _) hb3
  have hs3 := H2.out.2.2.later hb3 hDl2
  obtain ⟨W4, hW4⟩ : ∃ W4, W4 = w3.setCell ⟨bE, 0, none⟩ (.int .i64 z) := ⟨_, rfl⟩
  have hI4 : ChkI ar bAt bAr bMy bE mA mM K g (R, m + 1, z) W4 := by rw [hW4]; exact hI3.setE o z
  have hO34 : Oth (fun b => b = bAt ∨ b = bE ∨ b = mM) w3 W4 := by rw [hW4]; exact (Oth.refl _ _).set (p := ⟨bE, 0, none⟩) (.inr (.inl rfl)) _
  have hDl3 : D < w3.heap.size := block_lt_of_cell hs3.c0
  have hs4 := hs3.oth hO34 hDl3 (fun h => HnD.out D h rfl)
  have hN4 : NumsOf W4 mM R (m + 8) := by
    rw [hW4]
    exact (HN2.out.later hb3).at_block (((Oth.refl (· = bE) w3).set (p := ⟨bE, 0, none⟩) rfl _).block mM (hI3.may.lt) (by omega))
  have HN4 := Lib.hid hN4
  have H4 := Lib.hid (And.intro hI4 (And.intro ((H2.out.2.1.trans (.of_below hb3)).trans hO34) hs4))
  have HW4 := Lib.hid hW4
  have cE := hI3.cE
  have fE := hI3.fE
  simp only at cE
  clear hN4 i0 i1 i2 i3 i4 i5 i6 i7 i8 i9 i10 i11 i12 i13 cAr cMy hb3 hI3 hs3 hW4 hI4 hO34 hs4 hz Hcall
  go_upto_region 3 with (fail)
  rw [← HW4.out]
  clear cE fE
  have cE := H4.out.1.cE
  simp only at cE
  by_cases hz0 : z = 0
  · subst hz0
    have i0 := H4.out.2.2.c0
    have i1 := H4.out.2.2.c1
    have cMy := H4.out.1.cMy
    simp only [Nat.zero_add] at i1
    have hqq : q = ((x.radd R, m + 1, 0), true) := by rw [Hq.out, if_pos rfl]
    subst hqq
    obtain ⟨kk, hkk⟩ : ∃ kk, kk = x.kind := ⟨_, rfl⟩
    rw [← hkk] at i0
    by_cases h7 : kk = 7
    · subst h7
      have hra : x.radd R = R ++ [x.name] := by unfold St.radd; rw [if_pos hkk.symm]
      have Hra := Lib.hid hra
      obtain ⟨S, F, hS, h2, h3, h4, h5⟩ := HN4.out
      obtain ⟨y, hy⟩ : ∃ y, y = F x.name := ⟨_, rfl⟩
      have hyr : 0 ≤ y ∧ y ≤ 5100 := by
        rw [hy]
        by_cases hm : x.name ∈ R
        · have h := (h3 x.name hm).2
          have h' := (h3 x.name hm).1
          omega
        · rw [h4 x.name hm]; omega
      have Hy := Lib.hid (And.intro hy (And.intro hS (And.intro h2 (And.intro h3 (And.intro h4 h5)))))
      have hsz2 : x.name.size ≤ maxLen := by unfold maxLen; omega
      have hSl : S.length ≤ 1000000 := by omega
      clear hS h2 h3 h4 h5 hy hkk hra
      go_wp2_with (first
        | (at_lookup; refine sm_look (t := 60) Tryd.underlying60 (by kernel_rfl) rfl _ _ rfl mM S F rfl Hy.out.2.1 x.name rfl hsz2 y Hy.out.1.symm ?_)
        | (at_mapUpdate; refine sm_put (t := 60) Tryd.underlying60 rfl _ _ _ rfl mM S F rfl Hy.out.2.1 x.name rfl (y + 1) rfl hsz2 hSl ?_; intro w5 hm5 hg5; have H5 := Lib.hid (And.intro hm5 hg5); clear hm5 hg5))
      go_ret
      have hO5 := Oth.of_grown H5.out.2
      have hN5 := NumsOf.put Hy.out.2.2.1 Hy.out.2.2.2.1 Hy.out.2.2.2.2.1 Hy.out.2.2.2.2.2 Hy.out.1.symm H5.out.1
      exact ⟨rfl, by rw [Hra.out]; exact H4.out.1.setMay o hO5 (by
        have e : m + 8 + 1 = m + 1 + 8 := by omega
        rw [e] at hN5
        exact hN5), H4.out.2.1.trans (hO5.imp fun k _ h => .inr (.inr h))⟩
    · have hra : x.radd R = R := by unfold St.radd; rw [if_neg (by rw [← hkk]; exact h7)]
      have q7 : (kk == 7) = false := by simp [h7]
      have Hra := Lib.hid hra
      clear hkk hra h7
      go_wp2_with fail
      go_ret
      exact ⟨rfl, by rw [Hra.out]; exact H4.out.1, H4.out.2.1⟩
  · have hqq : q = ((R, m + 1, z), false) := by rw [Hq.out, if_neg hz0]
    subst hqq
    have qz : (z != 0) = true := by simp [hz0]
    clear hz0
    go_wp2_with fail
    go_ret
    exact ⟨rfl, H4.out.1, H4.out.2.1⟩
set_option maxRecDepth 100000 in
set_option maxHeartbeats 4000000 in
theorem chk2_any (ar : ByteArray → Int) (bAt bAr bMy bE mA mM K : Nat) (o : ChkOrd bAt bAr bMy bE mA mM) (g : Nat) (s : ChkS) (x : St) (va vb vd ve vc : Value) (vk : Nat → Value) (w0 V : World)
    (hI : ChkI ar bAt bAr bMy bE mA mM K g s V) (hf : FineSt x) (hx : StVals w0 x va vb vd ve vc vk) :
    Calls Tryd.prog 15 #[stVal x va vb vd ve vc, .pointer (some ⟨bMy, 0, none⟩)] V
      (fun e V' => e = .returned (.tuple #[]) ∧ ChkI ar bAt bAr bMy bE mA mM K g (chkL s x) V' ∧ Oth (fun b => b = bAt ∨ b = bE ∨ b = mM) V V') := by
  obtain ⟨aa, ca, rfl, -⟩ := hx.a.form
  obtain ⟨ab, cb, rfl, -⟩ := hx.b.form
  obtain ⟨ad, cd, rfl, -⟩ := hx.d.form
  obtain ⟨ae, ce, rfl, -⟩ := hx.e.form
  obtain ⟨ac, cc, rfl, hcc1, hcc2⟩ := hx.c.form
  have hsz : x.name.size ≤ 16 := St.size_of_own ((St.fine_eq x).1 hf.fine).1
  obtain ⟨na, hna⟩ : ∃ n, n = x.a.args.length := ⟨_, rfl⟩
  obtain ⟨nb, hnb⟩ : ∃ n, n = x.b.args.length := ⟨_, rfl⟩
  obtain ⟨nd, hnd⟩ : ∃ n, n = x.body.length := ⟨_, rfl⟩
  obtain ⟨ne, hne⟩ : ∃ n, n = x.els.length := ⟨_, rfl⟩
  obtain ⟨nc, hnc⟩ : ∃ n, n = x.cases.length := ⟨_, rfl⟩
  rw [← hna, ← hnb, ← hnd, ← hne, ← hnc]
  obtain ⟨R, m, e0⟩ := s
  have hfew := hI.few
  simp only at hfew
  obtain ⟨W1, hW1⟩ : ∃ W1, W1 = V.alloc (.cells #[.int .i64 x.kind, .string x.name, .int .i64 x.n, .int .i64 x.a.kind, .int .i64 x.a.n, .string x.a.name, .slice aa na ca, .int .i64 x.b.kind, .int .i64 x.b.n, .string x.b.name, .slice ab nb cb, .slice ad nd cd, .slice ae ne ce, .slice ac nc cc] 56) := ⟨_, rfl⟩
  obtain ⟨D, hD⟩ : ∃ D, D = V.heap.size := ⟨_, rfl⟩
  have hb1 : Below V.heap.size V W1 := by rw [hW1]; exact (Below.refl _ _).alloc (Nat.le_refl _) _
  have hs1 : StAt W1 D 0 x (.slice aa na ca) (.slice ab nb cb) (.slice ad nd cd) (.slice ae ne ce) (.slice ac nc cc) := by rw [hW1, hD]; exact StAt.box V x _ _ _ _ _ _
  have hI1 := hI.later (Nat.le_refl _) hb1
  have H1 := Lib.hid (And.intro hI1 hb1)
  have HW1 := Lib.hid (And.intro hW1 hD)
  have cMy := hI1.cMy
  have Hq : Hid (chkL (R, m, e0) x = if x.kind = 7 then (R.filter (fun y => decide (y ≠ x.name)), m, e0) else (R, m, e0)) := rfl
  obtain ⟨q, hq⟩ : ∃ q, q = chkL (R, m, e0) x := ⟨_, rfl⟩
  rw [← hq] at Hq
  rw [← hq]
  unfold stVal
  have i0 := hs1.c0
  have i1 := hs1.c1
  simp only [Nat.zero_add] at i1
  have hsz2 : x.name.size ≤ maxLen := by unfold maxLen; omega
  clear hI hx hf hna hnb hnd hne hnc hW1 hD hb1 hs1 hI1 hcc1 hcc2 hq
  go_enter Tryd.func15, Tryd.ntmps15
  go_upto_region 1 with (fail)
  rw [← HW1.out.1, ← HW1.out.2]
  obtain ⟨kk, hkk⟩ : ∃ kk, kk = x.kind := ⟨_, rfl⟩
  rw [← hkk] at i0 Hq
  clear hkk
  by_cases h7 : kk = 7
  · subst h7
    obtain ⟨S, F, hS, h2, h3, h4, h5⟩ := H1.out.1.may
    have Hm := Lib.hid (And.intro hS (And.intro h2 (And.intro h3 (And.intro h4 h5))))
    have Hqq : Hid (q = (R.filter (fun y => decide (y ≠ x.name)), m, e0)) := by show _ = _; rw [Hq.out, if_pos rfl]
    clear hS h2 h3 h4 h5 Hq
    go_wp2_with (at_delete; refine sm_del (t := 60) Tryd.underlying60 rfl _ _ rfl mM S F rfl Hm.out.1 x.name rfl hsz2 ?_; intro w5 hm5 ht5; have H5 := Lib.hid (And.intro hm5 ht5); clear hm5 ht5)
    refine bodyPost_end (results_none rfl _ _ _) rfl ?_
    have hO5 := Oth.of_turned H5.out.2
    have hN5 := NumsOf.del Hm.out.2.1 Hm.out.2.2.1 Hm.out.2.2.2.1 Hm.out.2.2.2.2 H5.out.1
    exact ⟨rfl, by rw [Hqq.out]; exact H1.out.1.setMay o hO5 hN5, (Oth.of_below H1.out.2).trans (hO5.imp fun k _ h => .inr (.inr h))⟩
  · have q7 : (kk == 7) = false := by simp [h7]
    have Hqq : Hid (q = (R, m, e0)) := by show _ = _; rw [Hq.out, if_neg h7]
    clear h7 Hq
    go_wp2_with fail
    refine bodyPost_end (results_none rfl _ _ _) rfl ?_
    exact ⟨rfl, by rw [Hqq.out]; exact H1.out.1, Oth.of_below H1.out.2⟩
end Go.Proofs.YtgobcldecokppaaDoor
