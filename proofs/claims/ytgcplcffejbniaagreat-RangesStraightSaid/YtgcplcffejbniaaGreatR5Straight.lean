/- R5.Straight. -/
import Derived.Test.YtgcplcffejbniaaGreatN4Check
import Derived.Test.YtgcplcffejbniaaGreatNmSorted
import Derived.Test.YtgcplcffejbniaaGreatNmAwake
import Derived.Test.YtgcplcffejbniaaGreatR5Check
import Derived.Test.YtgcplcffejbniaaGreatR5Stq
import Derived.Test.YtgcplcffejbniaaGreatRgStraight
/- R4.Calls. -/
/- R4.Calls: which functions are called. -/
namespace Go.Proofs.YtgcplcffejbniaaGreat
open Go.RowKit Go.Maps

/-- The first numbers alone. -/
def callsUpto (C : List Int) (i : Nat) : List Int := ((List.range i).filter fun (j : Nat) => decide ((j : Int) ∈ C)).map fun (j : Nat) => (j : Int)
theorem callsUpto_next (C : List Int) (i : Nat) : callsUpto C (i + 1) = callsUpto C i ++ (if (i : Int) ∈ C then [(i : Int)] else []) := by
  unfold callsUpto
  rw [List.range_succ, List.filter_append, List.map_append]
  by_cases h : (i : Int) ∈ C
  · simp [h]
  · simp [h]
theorem callsUpto_len (C : List Int) (i : Nat) : (callsUpto C i).length ≤ i := by
  unfold callsUpto
  rw [List.length_map]
  exact Nat.le_trans (List.length_filter_le _ _) (by simp)
theorem callsUpto_all {C : List Int} {G l : List ByteArray} {N : Nat} (h : ∀ z, z ∈ C ↔ idxs G l z) (hN : G.length ≤ N) : callsUpto C N = callsN G l := by
  refine rise_ext _ _ ?_ (callsN_sorted G l) fun z => ?_
  · unfold callsUpto
    rw [List.pairwise_map]
    exact (List.Pairwise.filter _ List.pairwise_lt_range).imp fun h => by omega
  · rw [callsN_mem, ← h z]
    unfold callsUpto
    rw [List.mem_map]
    constructor
    · rintro ⟨j, hj, rfl⟩
      exact of_decide_eq_true (List.mem_filter.1 hj).2
    · intro hz
      obtain ⟨k, s, rfl, h1, _⟩ := (h z).1 hz
      exact ⟨k, List.mem_filter.2 ⟨List.mem_range.2 (by have := (List.getElem?_eq_some_iff.1 h1).1; omega), decide_eq_true hz⟩, rfl⟩
theorem Fn.nfault_zero {f : Fn} {G : List ByteArray} {i : Nat} (h : (f.nfault G i).1 = 0) : f.nfault G i = (0, 0, 0) := by
  unfold Fn.nfault at h ⊢
  split
  · rename_i h1; rw [if_pos h1] at h; cases h
  · rename_i h1
    rw [if_neg h1] at h
    split
    · rename_i h2; rw [if_pos h2] at h; exact absurd h h2
    · rfl
theorem Pg.nfault_bad' {p : Pg} (h : p.fault.1 ≠ 0) : p.nfault = p.fault := by unfold Pg.nfault; rw [if_pos h]
/-- Where nothing is wrong, no function is. -/
theorem Fn.nfaults_all {l : List Fn} {G : List ByteArray} {k : Nat} (h : (Fn.nfaults l G k).1 = 0) : ∀ (i : Nat) x, l[i]? = some x → (x.nfault (G ++ gAt l i) (k + i)).1 = 0 := by
  induction l generalizing G k with
  | nil => intro i x hx; simp at hx
  | cons y l ih =>
    simp only [Fn.nfaults] at h
    by_cases h0 : (y.nfault G k).1 = 0
    · rw [if_neg (by rw [h0]; decide)] at h
      intro i x hx
      cases i with
      | zero => simp at hx; subst hx; simpa [gAt] using h0
      | succ i =>
        have e : G ++ gAt (y :: l) (i + 1) = G ++ [y.name] ++ gAt l i := by unfold gAt; simp
        rw [e, Nat.add_comm i 1, ← Nat.add_assoc]
        exact ih h i x (by simpa using hx)
    · rw [if_pos h0] at h; exact absurd h h0
set_option maxRecDepth 100000 in
set_option maxHeartbeats 4000000 in
theorem r4calls_any (p : Pg) (vw vf : Value) (vp vb : Nat → Value) (fn : Int) (W : World) (h : PgIn W p vw vf vp vb) : Calls Tryz.prog 21 #[pgV vw vf, .int .i64 fn] W (RetI (p.ncalls fn) W) := by
  have HP := Lib.hid h
  obtain ⟨hw, hr, hpp, hbb⟩ := h
  obtain ⟨aw, cw, rfl, hwc, hwc2⟩ := hw.row.form
  obtain ⟨a, cap, rfl, hncap, hcap⟩ := hr.form
  obtain ⟨n, hn⟩ : ∃ n, n = p.funcs.length := ⟨_, rfl⟩
  obtain ⟨m, hm⟩ : ∃ m, m = p.widen.length := ⟨_, rfl⟩
  have hn62 : n ≤ 9223372036854775807 := by have : maxLen ≤ 9223372036854775807 := by decide
                                            omega
  have Hl := Lib.hid (And.intro hm hn)
  rw [← hn, ← hm] at HP
  rw [← hn, ← hm]
  obtain ⟨W1, hW1⟩ : ∃ W1, W1 = W.alloc (.cells #[.slice aw m cw, .slice a n cap] 25) := ⟨_, rfl⟩
  obtain ⟨B, hB⟩ : ∃ B, B = W.heap.size := ⟨_, rfl⟩
  have hb1 : Below W.heap.size W W1 := by rw [hW1]; exact (Below.refl _ _).alloc (Nat.le_refl _) _
  have c0 : W1.cell? ⟨B, 0, none⟩ = some (.slice aw m cw) := by rw [hW1, hB]; exact World.cell?_alloc_at _ _ _ _ rfl
  have c1 : W1.cell? ⟨B, 1, none⟩ = some (.slice a n cap) := by rw [hW1, hB]; exact World.cell?_alloc_at _ _ _ _ rfl
  have qB : B < W1.heap.size := by rw [hW1, hB]; simp
  have HW1 := Lib.hid (And.intro hW1 hB)
  have H1 := Lib.hid (And.intro hb1 (And.intro c0 c1))
  unfold pgV
  clear hw hr hpp hbb hn hm hW1 hB hb1
  go_enter Tryz.func21, Tryz.ntmps21
  go_upto_region 1 with (fail)
  rw [← HW1.out.1, ← HW1.out.2]
  go_wp2_with fail
  refine (r4check_any p (.slice aw m cw) (.slice a n cap) vp vb W1 (PgIn.later HP.out H1.out.1)).mono ?_
  rintro e w2 ⟨rfl, hb2⟩
  obtain ⟨t, ht⟩ : ∃ t, t = p.nfault := ⟨_, rfl⟩
  rw [← ht]
  have Ht := Lib.hid ht
  obtain ⟨ea, eb, ec⟩ := t
  unfold fltV
  obtain ⟨W3, hW3⟩ : ∃ W3, W3 = w2.alloc (.cells #[.int .i64 ea, .int .i64 eb, .int .i64 ec] 29) := ⟨_, rfl⟩
  obtain ⟨D, hD⟩ : ∃ D, D = w2.heap.size := ⟨_, rfl⟩
  have hb3 : Below w2.heap.size w2 W3 := by rw [hW3]; exact (Below.refl _ _).alloc (Nat.le_refl _) _
  have d0 : W3.cell? ⟨D, 0, none⟩ = some (.int .i64 ea) := by rw [hW3, hD]; exact World.cell?_alloc_at _ _ _ _ rfl
  have hb23 := hb2.trans (hb3.mono hb2.size)
  have H3 := Lib.hid (And.intro (H1.out.1.trans (hb23.mono H1.out.1.size)) (And.intro ((hb23.cell (p := ⟨B, 0, none⟩) qB).trans c0) ((hb23.cell (p := ⟨B, 1, none⟩) qB).trans c1)))
  have q3 : B < W3.heap.size := Nat.lt_of_lt_of_le qB hb23.size
  have HW3 := Lib.hid (And.intro hW3 hD)
  clear ht hb2 hW3 hD hb3 hb23 c0 c1
  go_upto_region 2 with (fail)
  rw [← HW3.out.1, ← HW3.out.2]
  obtain ⟨-, c0, c1⟩ := H3.out
  by_cases hbad : ea ≠ 0 ∨ fn < 0 ∨ (n : Int) ≤ fn
  · have Hres : Hid (p.ncalls fn = []) := by
      show _ = _
      unfold Pg.ncalls
      rw [← Ht.out]
      by_cases h1 : ea ≠ 0 ∨ fn < 0
      · exact if_pos h1
      · refine (if_neg h1).trans ?_
        rw [List.getElem?_eq_none (by have := Hl.out.2; omega)]
    have hor : (ea != 0) = true ∨ (ea != 0) = false ∧ fn < 0 ∨ (ea != 0) = false ∧ 0 ≤ fn ∧ (n : Int) ≤ fn := by
      by_cases h1 : ea = 0
      · by_cases h2 : fn < 0
        · exact .inr (.inl ⟨by simp [h1], h2⟩)
        · exact .inr (.inr ⟨by simp [h1], by omega, by omega⟩)
      · exact .inl (by simp [h1])
    clear hbad
    rcases hor with hq | ⟨hq, hf⟩ | ⟨hq, hf, hf2⟩
    all_goals
      go_wp2_with fail
      go_ret
      exact ⟨_, rfl, by rw [Hres.out]; exact World.ownsRow_nil _ _ _ _, H3.out.1⟩
  · obtain ⟨k, hk⟩ : ∃ k : Nat, fn = (k : Int) := ⟨fn.toNat, by omega⟩
    subst hk
    have hea : ea = 0 := by omega
    subst hea
    have hkn : k < n := by omega
    obtain ⟨f, hf⟩ : ∃ f, p.funcs[k]? = some f := ⟨_, List.getElem?_eq_getElem (by rw [← Hl.out.2]; exact hkn)⟩
    have hf0 : p.fault.1 = 0 := by
      by_cases h : p.fault.1 = 0
      · exact h
      · exfalso
        have h2 := Pg.nfault_bad' h
        rw [← Ht.out] at h2
        rw [← h2] at h
        exact h rfl
    have hgood := Pg.good hf0
    have hz : (Fn.nfaults p.funcs [] 0).1 = 0 := by
      have h2 : p.nfault = Fn.nfaults p.funcs [] 0 := by unfold Pg.nfault; rw [if_neg (by rw [hf0]; decide)]
      rw [← h2, ← Ht.out]
    have hall := Fn.nfaults_all hz
    have hone : (gAt p.funcs k).Nodup := gAt_nodup fun j y _ hy => by have := hall j y hy; exact this
    have hfz : (f.nfault (gAt p.funcs k) k).1 = 0 := by have := hall k f hf; rw [List.nil_append, Nat.zero_add] at this; exact this
    have Hres : Hid (p.ncalls (k : Int) = callsN (gAt p.funcs k) (St.ncallss f.body)) := by
      show _ = _
      unfold Pg.ncalls
      rw [← Ht.out]
      refine (if_neg (by omega)).trans ?_
      rw [Int.toNat_natCast, hf]
    have hn32 : n ≤ 32 := by rw [Hl.out.2]; exact hgood.1
    have Hlook := Lib.hid (r4look_any p (.slice aw m cw) (.slice a n cap) vp vb k f W3 (PgIn.later HP.out H3.out.1) hf hone hgood.1 (hgood.2 k f hf))
    have Hfz := Lib.hid hfz
    have hk1 : ¬ ((k : Int) < 0) := by omega
    have hk2 : ¬ ((n : Int) ≤ (k : Int)) := by omega
    clear hbad hf hf0 hgood hz hall hone hfz
    go_wp2_with fail
    refine Hlook.out.mono ?_
    rintro E w5 ⟨c, bs, kv, K, nn, ll, ee, C, rfl, hb5, hc5, hC5⟩
    obtain ⟨hR5, hCz⟩ := hC5 Hfz.out
    rw [Fn.nfault_zero Hfz.out]
    rw [← Hl.out.2] at hR5
    unfold fltV
    obtain ⟨W6, hW6⟩ : ∃ W6, W6 = w5.alloc (.cells #[.int .i64 0, .int .i64 0, .int .i64 0] 29) := ⟨_, rfl⟩
    have hb6 : Below w5.heap.size w5 W6 := by rw [hW6]; exact (Below.refl _ _).alloc (Nat.le_refl _) _
    obtain ⟨Bo, hBo⟩ : ∃ b, b = W6.heap.size := ⟨_, rfl⟩
    obtain ⟨W7, hW7⟩ : ∃ W7, W7 = W6.alloc (.cells #[] 3) := ⟨_, rfl⟩
    have hb7 : Below W6.heap.size W6 W7 := by rw [hW7]; exact (Below.refl _ _).alloc (Nat.le_refl _) _
    have how7 : OwnInts W7 Bo (.slice (some ⟨Bo, 0, none⟩) 0 0) [] := by rw [hW7, hBo]; exact owns_empty W6 _ _ (Nat.le_refl _)
    have hR6 := hR5.later hb6
    have hb36 : Below W3.heap.size W3 W6 := hb5.trans (hb6.mono hb5.size)
    have HW6 := Lib.hid hW6
    have HW7 := Lib.hid (And.intro hW7 hBo)
    have H6 := Lib.hid (And.intro hR6 (And.intro (H3.out.1.trans (hb36.mono H3.out.1.size)) hCz))
    have H7 := Lib.hid (And.intro how7 (show Below Bo W6 W7 by rw [hBo]; exact hb7))
    have q6 : c < Bo := by rw [hBo]; exact hR6.in
    have q6b : bs < c := hR6.lt
    have q7 : Bo ≤ W7.heap.size := by rw [hBo]; exact hb7.size
    have HBo : Hid (W6.heap.size ≤ Bo ∧ Bo ≤ W6.heap.size) := ⟨by omega, by omega⟩
    clear hb5 hc5 hC5 hR5 hCz hW6 hb6 hBo hW7 hb7 how7 hR6 hb36 Hlook c0 c1 d0
    go_upto_region 5 with (fail)
    rw [← HW6.out]
    go_upto_region 6 with (fail)
    rw [← HW7.out.1, ← HW7.out.2]
    go_wp2_with fail
    go_loopg [8, 9] n (fun g vv iv wx => ∃ i : Nat, g = n - i ∧ iv = .int .i64 (i : Int) ∧ i ≤ n ∧ OwnInts wx Bo vv (callsUpto C i) ∧ Below Bo W6 wx ∧ Bo ≤ wx.heap.size)
    case atStart => exact ⟨0, rfl, rfl, Nat.zero_le _, H7.out.1, H7.out.2, q7⟩
    case round =>
      obtain ⟨i, hg, rfl, hi, hown, hbo, hsz⟩ := hrel
      have Hg := Lib.hid hg
      obtain ⟨_, av, cv, hve, -⟩ := SliceIn.of_owns hown
      obtain ⟨lv, hlv⟩ : ∃ lv, lv = (callsUpto C i).length := ⟨_, rfl⟩
      rw [← hlv] at hve
      subst hve
      have Hlv := Lib.hid hlv
      have hRr : RAt wr c bs (.slice aw m cw) (.slice a n cap) kv K (k : Int) nn ll ee n C := H6.out.1.later (hbo.mono (by have := HBo.out; omega))
      have c7 := hRr.c7
      have qr : c < wr.heap.size := hRr.in
      have Hr := Lib.hid (And.intro hown (And.intro hbo hRr))
      clear hg hown hbo hlv
      by_cases hin : i < n
      · obtain ⟨j0, -⟩ := hRr.calls i hin
        obtain ⟨bb, hbb⟩ : ∃ bb, bb = decide ((i : Int) ∈ C) := ⟨_, rfl⟩
        rw [← hbb] at j0
        have Hbb := Lib.hid hbb
        clear hbb hRr
        cases bb
        · have Hni : Hid (callsUpto C (i + 1) = callsUpto C i) := by
            show _ = _
            rw [callsUpto_next, if_neg (of_decide_eq_false Hbb.out.symm), List.append_nil]
          go_wp2_with fail
          go_roundg (n - (i + 1))
          case measure => have := Hg.out; omega
          case rel => exact ⟨i + 1, rfl, by go_num, hin, by rw [Hni.out]; exact Hr.out.1, Hr.out.2.1, hsz⟩
        · have Hni : Hid (callsUpto C (i + 1) = callsUpto C i ++ [(i : Int)]) := by
            show _ = _
            rw [callsUpto_next, if_pos (of_decide_eq_true Hbb.out.symm)]
          have hlen : (callsUpto C i).length ≤ 1000000000000 := by have := callsUpto_len C i; omega
          have Hlen := Lib.hid hlen
          clear hlen
          go_wp2_with (at_builtin; refine append_int rfl _ _ rfl Bo _ (callsUpto C i) rfl Hr.out.1 (i : Int) rfl Hlen.out hsz ?_; intro v4 w4 hown4 hg4 hfr4 hb4; have H4 := Lib.hid (And.intro hown4 (hb4 Bo W6 Hr.out.2.1 (Nat.le_refl _))); have hsz4 := hg4.size; simp at hsz4; clear hown4 hg4 hfr4 hb4)
          go_roundg (n - (i + 1))
          case measure => have := Hg.out; omega
          case rel => exact ⟨i + 1, rfl, by go_num, hin, by rw [Hni.out]; exact H4.out.1, H4.out.2, by omega⟩
      · obtain rfl : n = i := by omega
        have Hfin : Hid (callsUpto C n = p.ncalls (k : Int)) := by
          show _ = _
          rw [Hres.out]
          exact callsUpto_all H6.out.2.2 (by have := gAt_len p.funcs k; rw [← Hl.out.2] at this; exact this)
        clear hin hRr
        go_wp2_with fail
        go_ret
        refine ⟨_, rfl, ?_, H6.out.2.1.trans (Hr.out.2.1.mono (by have h1 := H6.out.2.1.size; have := HBo.out; omega))⟩
        rw [← Hfin.out]
        exact ownsRow_base_a Hr.out.1 (by have h1 := H6.out.2.1.size; have := HBo.out; omega)
end Go.Proofs.YtgcplcffejbniaaGreat

namespace Go.Proofs.YtgcplcffejbniaaGreat
open Go.RowKit Go.Maps

/-- What is told of the functions so far: those ahead of i, and z of i. -/
structure GoesAt (w : World) (G n : Nat) (f : Int → Bool) (i : Nat) (z : Bool) : Prop where
  ahead : ∀ j, j < i → j < n → w.cell? ⟨G, j, none⟩ = some (.bool (f (j : Int)))
  at_ : i < n → w.cell? ⟨G, i, none⟩ = some (.bool z)
  rest : ∀ j, i < j → j < n → w.cell? ⟨G, j, none⟩ = some (.bool false)
  free : ∀ j, w.frozen? ⟨G, j, none⟩ = false
theorem GoesAt.later {w w' : World} {G n : Nat} {f : Int → Bool} {i : Nat} {z : Bool} (h : GoesAt w G n f i z) {C : Nat} (hb : Below C w w') (hG : G < C) : GoesAt w' G n f i z :=
  have k := fun j => hb.cell (p := ⟨G, j, none⟩) hG
  ⟨fun j h1 h2 => (k j).trans (h.ahead j h1 h2), fun h1 => (k i).trans (h.at_ h1), fun j h1 h2 => (k j).trans (h.rest j h1 h2), fun j => (hb.frozen (p := ⟨G, j, none⟩) hG).trans (h.free j)⟩
theorem GoesAt.put {w : World} {G n : Nat} {f : Int → Bool} {i : Nat} {z : Bool} (h : GoesAt w G n f i z) (z' : Bool) : GoesAt (w.setCell ⟨G, i, none⟩ (.bool z')) G n f i z' := by
  have ne : ∀ j, j ≠ i → (w.setCell ⟨G, i, none⟩ (.bool z')).cell? ⟨G, j, none⟩ = w.cell? ⟨G, j, none⟩ := fun j hj => World.cell?_setCell_other _ _ _ _ (by intro e; injection e with e1 e2; exact hj e2.symm)
  exact ⟨fun j h1 h2 => (ne j (by omega)).trans (h.ahead j h1 h2), fun h1 => World.cell?_setCell_same' _ _ _ (by rw [h.at_ h1]; rfl), fun j h1 h2 => (ne j (by omega)).trans (h.rest j h1 h2), fun j => (World.frozen?_setCell _ _ _ _).trans (h.free j)⟩
theorem GoesAt.next {w : World} {G n : Nat} {f : Int → Bool} {i : Nat} {z : Bool} (h : GoesAt w G n f i z) (hz : z = f (i : Int)) : GoesAt w G n f (i + 1) false :=
  ⟨fun j h1 h2 => by
    by_cases e : j = i
    · subst e; rw [h.at_ h2, hz]
    · exact h.ahead j (by omega) h2, fun h1 => h.rest (i + 1) (by omega) h1, fun j h1 h2 => h.rest j (by omega) h2, h.free⟩
set_option maxRecDepth 100000 in
set_option maxHeartbeats 8000000 in
theorem r5straight_any (p : Pg) (vw vf : Value) (vp vb : Nat → Value) (fn : Int) (params : Bool) (W : World) (h : PgIn W p vw vf vp vb) (hfn : in64 fn) :
    Calls Tryz.prog 9 #[pgV vw vf, .int .i64 fn, .bool params] W (Gives (.bool (p.straight fn params)) W) := by
  obtain ⟨hw, hr, hpp, hbb⟩ := id h
  obtain ⟨aw, cw, rfl, hwc, hwc2⟩ := hw.row.form
  obtain ⟨a, cap, rfl, hncap, hcap⟩ := hr.form
  obtain ⟨n, hn⟩ : ∃ n, n = p.funcs.length := ⟨_, rfl⟩
  obtain ⟨m, hm⟩ : ∃ m, m = p.widen.length := ⟨_, rfl⟩
  have hn62 : n ≤ 9223372036854775807 := by have : maxLen ≤ 9223372036854775807 := by decide
                                            omega
  have Hl := Lib.hid (And.intro hm hn)
  have Hf := Lib.hid (And.intro hpp hbb)
  have Hrow : Hid (RowOf W (.slice a n cap) p.funcs.length 3 (fun b o i => ∀ x, p.funcs[i]? = some x → FnCells W b o x (vp i) (vb i))) := by rw [hn]; exact hr
  rw [← hn, ← hm] at h
  have HP := Lib.hid h
  rw [← hn, ← hm]
  rw [← hn] at hncap
  have hfn2 : -9223372036854775808 ≤ fn ∧ fn ≤ 9223372036854775807 := hfn
  obtain ⟨W1, hW1⟩ : ∃ W1, W1 = W.alloc (.cells #[.slice aw m cw, .slice a n cap] 25) := ⟨_, rfl⟩
  obtain ⟨B, hB⟩ : ∃ B, B = W.heap.size := ⟨_, rfl⟩
  have hb1 : Below W.heap.size W W1 := by rw [hW1]; exact (Below.refl _ _).alloc (Nat.le_refl _) _
  have c0 : W1.cell? ⟨B, 0, none⟩ = some (.slice aw m cw) := by rw [hW1, hB]; exact World.cell?_alloc_at _ _ _ _ rfl
  have c1 : W1.cell? ⟨B, 1, none⟩ = some (.slice a n cap) := by rw [hW1, hB]; exact World.cell?_alloc_at _ _ _ _ rfl
  have qB : B < W1.heap.size := block_lt_of_cell c0
  have HW1 := Lib.hid (And.intro hW1 hB)
  have H1 := Lib.hid hb1
  have hBW : W.heap.size ≤ B := by omega
  unfold pgV
  clear h hw hr hpp hbb hn hm hW1 hB hb1 hfn
  go_enter Tryz.func9, Tryz.ntmps9
  go_upto_region 1 with (fail)
  rw [← HW1.out.1, ← HW1.out.2]
  go_wp2_with fail
  refine (r5check_any p (.slice aw m cw) (.slice a n cap) vp vb W1 (HP.out.later H1.out)).mono ?_
  rintro e w2 ⟨rfl, hb2⟩
  obtain ⟨t0, ht0⟩ : ∃ t, t = p.rfault := ⟨_, rfl⟩
  rw [← ht0]
  have Ht0 := Lib.hid ht0
  obtain ⟨ea, eb, ec⟩ := t0
  unfold fltV
  obtain ⟨W3, hW3⟩ : ∃ W3, W3 = w2.alloc (.cells #[.int .i64 ea, .int .i64 eb, .int .i64 ec] 29) := ⟨_, rfl⟩
  obtain ⟨D, hD⟩ : ∃ D, D = w2.heap.size := ⟨_, rfl⟩
  have hb3 : Below w2.heap.size w2 W3 := by rw [hW3]; exact (Below.refl _ _).alloc (Nat.le_refl _) _
  have d0 : W3.cell? ⟨D, 0, none⟩ = some (.int .i64 ea) := by rw [hW3, hD]; exact World.cell?_alloc_at _ _ _ _ rfl
  have hb13 : Below W1.heap.size W1 W3 := hb2.trans (hb3.mono hb2.size)
  have H3 := Lib.hid (H1.out.trans (hb13.mono H1.out.size))
  have q3 : B < W3.heap.size := Nat.lt_of_lt_of_le qB hb13.size
  have HB := Lib.hid (And.intro ((hb13.cell (p := ⟨B, 0, none⟩) qB).trans c0) ((hb13.cell (p := ⟨B, 1, none⟩) qB).trans c1))
  have HW3 := Lib.hid (And.intro hW3 hD)
  clear c0 c1 hb2 ht0 hW3 hD hb3 hb13
  go_upto_region 2 with (fail)
  rw [← HW3.out.1, ← HW3.out.2]
  obtain ⟨c0, c1⟩ := HB.out
  have Hr : Hid (p.straight fn params = (decide (p.rfault.1 = 0) && (decide (0 ≤ fn ∧ fn < (n : Int)) && p.str params fn))) := by show _ = _; rw [Hl.out.2]; rfl
  by_cases hbad : ea ≠ 0 ∨ fn < 0 ∨ (n : Int) ≤ fn
  · have Hres : Hid (p.straight fn params = false) := by
      show _ = _
      rw [Hr.out, ← Ht0.out]
      rcases hbad with h | h
      · rw [decide_eq_false h]; rfl
      · rw [decide_eq_false (show ¬ (0 ≤ fn ∧ fn < (n : Int)) by omega), Bool.false_and, Bool.and_false]
    have hor : (ea != 0) = true ∨ (ea != 0) = false ∧ fn < 0 ∨ (ea != 0) = false ∧ 0 ≤ fn ∧ (n : Int) ≤ fn := by
      by_cases h1 : ea = 0
      · by_cases h2 : fn < 0
        · exact .inr (.inl ⟨by simp [h1], h2⟩)
        · exact .inr (.inr ⟨by simp [h1], by omega, by omega⟩)
      · exact .inl (by simp [h1])
    clear hbad
    rcases hor with hq | ⟨hq, hf⟩ | ⟨hq, hf, hf2⟩
    all_goals
      go_wp2_with fail
      go_ret
      exact ⟨by rw [Hres.out]; rfl, H3.out⟩
  · obtain ⟨k, hk⟩ : ∃ k : Nat, fn = (k : Int) := ⟨fn.toNat, by omega⟩
    subst hk
    have hea : ea = 0 := by omega
    subst hea
    have hkn : k < n := by omega
    have hpf := Pg.fault_of_rfault (p := p) (by rw [← Ht0.out])
    have hgood := Pg.good hpf.1
    have Hgood := Lib.hid hgood.2
    have hn32 : n ≤ 32 := by rw [Hl.out.2]; exact hgood.1
    have Hchk : Hid (∀ (i : Nat) (x : Fn), p.funcs[i]? = some x → (St.chks x.body 1).2 = 0) := fun i x hx => Pg.chks_of hpf.1 hx
    have Hr1 : Hid (p.straight (k : Int) params = p.str params (k : Int)) := by
      show _ = _
      rw [Hr.out, ← Ht0.out, decide_eq_true (show (0 : Int) ≤ (k : Int) ∧ (k : Int) < (n : Int) by omega)]; rfl
    have hk1 : ¬ ((k : Int) < 0) := by omega
    have hk2 : ¬ ((n : Int) ≤ (k : Int)) := by omega
    have hq : ((0 : Int) != 0) = false := rfl
    obtain ⟨G, hG⟩ : ∃ G, G = W3.heap.size := ⟨_, rfl⟩
    obtain ⟨W4, hW4⟩ : ∃ W4, W4 = W3.alloc (.cells (zeroBools n) 4) := ⟨_, rfl⟩
    have hmk : (Instr.makeSlice 64 (.int .i64 (n : Int)) (.int .i64 (n : Int))).run Tryz.prog W3 = .ok (.slice (some ⟨G, 0, none⟩) n n) W4 := by rw [hG, hW4]; exact make_bools_run n (by omega) W3
    have hb4 : Below G W3 W4 := by rw [hW4, hG]; exact (Below.refl _ _).alloc (Nat.le_refl _) _
    have hcell : ∀ j, j < n → W4.cell? ⟨G, j, none⟩ = some (.bool false) := fun j hj => by
      rw [hW4, World.cell?_alloc_at _ _ _ _ hG]
      simp [zeroBools, boolVs, hj]
    have hga : GoesAt W4 G n (p.str params) 0 false := ⟨fun j h1 => by omega, fun h1 => hcell 0 h1, fun j _ h2 => hcell j h2, fun j => by rw [hW4]; exact World.frozen?_alloc_at _ _ _ _ hG⟩
    have qG : G < W4.heap.size := by rw [hW4, hG]; simp
    have q3G : W3.heap.size ≤ G := by omega
    have HG := Lib.hid (And.intro hb4 hga)
    clear hbad hpf hgood hG hW4 hb4 hcell hga
    go_wp2_with fail
    clear hmk c0 c1 d0
    go_loopg [9] (k + 1) (fun g iv wx => ∃ i : Nat, g = k + 1 - i ∧ iv = .int .i64 (i : Int) ∧ i ≤ k + 1 ∧ GoesAt wx G n (p.str params) i false ∧ Below G W3 wx ∧ G < wx.heap.size)
    case atStart => exact ⟨0, rfl, rfl, Nat.zero_le _, HG.out.2, HG.out.1, qG⟩
    case round =>
      obtain ⟨i, hg, rfl, hi, hga, hbw, hGr⟩ := hrel
      obtain ⟨V, hV⟩ : ∃ V : World, V = wr := ⟨_, rfl⟩
      subst hV
      have Hg := Lib.hid hg
      have Hi := Lib.hid (And.intro hga hbw)
      have hbW : Below W.heap.size W V := H3.out.trans (hbw.mono (by have := H3.out.size; omega))
      have HbW := Lib.hid hbW
      clear hg hga hbw
      by_cases hik : i < k + 1
      · have hin : i < n := by omega
        obtain ⟨x, hx⟩ : ∃ x, p.funcs[i]? = some x := ⟨_, List.getElem?_eq_getElem (by rw [← Hl.out.2]; exact hin)⟩
        obtain ⟨b, off, rfl, hb, hP⟩ := Hrow.out.at (i := i) (by rw [← Hl.out.2]; exact hin)
        have hfc := hP x hx
        have hrow := Hf.out.1 i x hx
        have hsts := Hf.out.2 i x hx
        have hcall := straight5_any x (vp i) (vb i) x.body (vb i) W hrow hsts hsts
        obtain ⟨ap, cp, hvp, -⟩ := hrow.form
        obtain ⟨ab, cb, hvb, -⟩ := hsts.form
        obtain ⟨np, hnp⟩ : ∃ n, n = x.params.length := ⟨_, rfl⟩
        obtain ⟨nb, hnb⟩ : ∃ n, n = x.body.length := ⟨_, rfl⟩
        rw [hvp, hvb, ← hnp, ← hnb] at hfc hcall
        have Hcall := Lib.hid hcall
        have halo : St.gofs x params false x.body = x.alone params := Fn.alone5 (Hgood.out i x hx).body (Hchk.out i x hx)
        have hat : p.aloneAt params (i : Int) = x.alone params := by unfold Pg.aloneAt; rw [Int.toNat_natCast, hx]
        obtain ⟨z, hz⟩ : ∃ z, z = p.aloneAt params (i : Int) := ⟨_, rfl⟩
        have Hz : Hid (St.gofs x params false x.body = z) := by show _ = _; rw [hz, hat, halo]
        have Hzs : Hid (p.str params (i : Int) = true ↔ z = true ∧ ∀ y ∈ p.ncalls (i : Int), p.str params y = true) := by rw [hz]; exact Pg.str_iff p params i
        have HS : Hid (∀ w : World, Below G W3 w → (w.cell? ⟨B, 0, none⟩ = some (.slice aw m cw) ∧ w.cell? ⟨B, 1, none⟩ = some (.slice (some ⟨b, off, none⟩) n cap)) ∧ FnCells w b (off + i * 3) x (.slice ap np cp) (.slice ab nb cb)) := fun w hw => by
          have hA := H3.out.trans (hw.mono (by have := H3.out.size; omega))
          exact ⟨⟨(hw.cell (p := ⟨B, 0, none⟩) (by show B < G; omega)).trans HB.out.1, (hw.cell (p := ⟨B, 1, none⟩) (by show B < G; omega)).trans HB.out.2⟩, hfc.later hA hb⟩
        clear hP hfc hrow hsts hcall hvp hvb hnp hnb halo hat hz hbW
        have hik2 : (i : Int) ≤ (k : Int) := by omega
        go_upto_region 8 with (fail)
        refine wp_region_heldZ (S := fun w => Below G W3 w) (z := 16) rfl ?_
        change wpAnyZ _ _ _ _ _ _ _ _ _ V.drew
        obtain ⟨W0, hW0⟩ : ∃ W0, W0 = V.drew := ⟨_, rfl⟩
        rw [← hW0]
        have hb0 : Below V.heap.size V W0 := by rw [hW0]; exact (Below.refl _ _).drew
        have Hb0 : Hid (Below G W3 W0) := Hi.out.2.trans (hb0.mono (by omega))
        have Hg0 : Hid (GoesAt W0 G n (p.str params) i false) := Hi.out.1.later hb0 hGr
        have q0 : G < W0.heap.size := Nat.lt_of_lt_of_le hGr hb0.size
        have HA0 : Hid (Below W.heap.size W W0) := HbW.out.trans (hb0.mono HbW.out.size)
        clear hb0 hW0
        refine wpAnyZ_take (i := 0) (by simp only [List.getElem?_toArray, List.getElem?_cons_zero]; rfl) (by kernel_rfl) (by kernel_rfl) (by kernel_rfl) (by kernel_rfl) (by intro _ _ _ h; exact h) (Or.inl ⟨by rfl, fun w hw => by (obtain ⟨⟨k0, k1⟩, f0, f1, f2⟩ := HS.out w hw; go_simp; try rfl)⟩) Hb0.out ?_
        refine wpAnyZ_take (i := 1) (by simp only [List.getElem?_toArray, List.getElem?_cons_succ, List.getElem?_cons_zero]; rfl) (by kernel_rfl) (by kernel_rfl) (by kernel_rfl) (by kernel_rfl) (by intro _ _ _ h; exact h) (Or.inl ⟨by rfl, fun w hw => by (obtain ⟨⟨k0, k1⟩, f0, f1, f2⟩ := HS.out w hw; go_simp; try rfl)⟩) Hb0.out ?_
        go_frame
        refine wpAnyZ_take (i := 2) (by simp only [List.getElem?_toArray, List.getElem?_cons_succ, List.getElem?_cons_zero]; rfl) (by kernel_rfl) (by kernel_rfl) (by kernel_rfl) (by kernel_rfl) (by intro _ _ _ h; exact h) (Or.inl ⟨by rfl, fun w hw => by (obtain ⟨⟨k0, k1⟩, f0, f1, f2⟩ := HS.out w hw; go_simp; try rfl)⟩) Hb0.out ?_
        refine wpAnyZ_take (i := 3) (by simp only [List.getElem?_toArray, List.getElem?_cons_succ, List.getElem?_cons_zero]; rfl) (by kernel_rfl) (by kernel_rfl) (by kernel_rfl) (by kernel_rfl) (by intro _ _ _ h; exact h) (Or.inl ⟨by rfl, fun w hw => by (obtain ⟨⟨k0, k1⟩, f0, f1, f2⟩ := HS.out w hw; go_simp; try rfl)⟩) Hb0.out ?_
        go_frame
        refine wpAnyZ_take (i := 4) (by simp only [List.getElem?_toArray, List.getElem?_cons_succ, List.getElem?_cons_zero]; rfl) (by kernel_rfl) (by kernel_rfl) (by kernel_rfl) (by kernel_rfl) (by intro _ _ _ h; exact h) (Or.inl ⟨by rfl, fun w hw => by (obtain ⟨⟨k0, k1⟩, f0, f1, f2⟩ := HS.out w hw; go_simp; try rfl)⟩) Hb0.out ?_
        refine wpAnyZ_take (i := 5) (by simp only [List.getElem?_toArray, List.getElem?_cons_succ, List.getElem?_cons_zero]; rfl) (by kernel_rfl) (by kernel_rfl) (by kernel_rfl) (by kernel_rfl) (by intro _ _ _ h; exact h) (Or.inl ⟨by rfl, fun w hw => by (obtain ⟨⟨k0, k1⟩, f0, f1, f2⟩ := HS.out w hw; go_simp; try rfl)⟩) Hb0.out ?_
        go_frame
        refine wpAnyZ_take (i := 6) (by simp only [List.getElem?_toArray, List.getElem?_cons_succ, List.getElem?_cons_zero]; rfl) (by kernel_rfl) (by kernel_rfl) (by kernel_rfl) (by kernel_rfl) (by intro _ _ _ h; exact h) (Or.inl ⟨by rfl, fun w hw => by (obtain ⟨⟨k0, k1⟩, f0, f1, f2⟩ := HS.out w hw; go_simp; try rfl)⟩) Hb0.out ?_
        refine wpAnyZ_take (i := 7) (by simp only [List.getElem?_toArray, List.getElem?_cons_succ, List.getElem?_cons_zero]; rfl) (by kernel_rfl) (by kernel_rfl) (by kernel_rfl) (by kernel_rfl) (by intro _ _ _ h; exact h) (Or.inl ⟨by rfl, fun w hw => by (obtain ⟨⟨k0, k1⟩, f0, f1, f2⟩ := HS.out w hw; go_simp; try rfl)⟩) Hb0.out ?_
        go_frame
        refine wpAnyZ_take (i := 8) (by simp only [List.getElem?_toArray, List.getElem?_cons_succ, List.getElem?_cons_zero]; rfl) (by kernel_rfl) (by kernel_rfl) (by kernel_rfl) (by kernel_rfl) (by intro _ _ _ h; exact h) (Or.inl ⟨by rfl, fun w hw => by (obtain ⟨⟨k0, k1⟩, f0, f1, f2⟩ := HS.out w hw; go_simp; try rfl)⟩) Hb0.out ?_
        refine wpAnyZ_take (i := 9) (by simp only [List.getElem?_toArray, List.getElem?_cons_succ, List.getElem?_cons_zero]; rfl) (by kernel_rfl) (by kernel_rfl) (by kernel_rfl) (by kernel_rfl) (by intro _ _ _ h; exact h) (Or.inl ⟨by rfl, fun w hw => by (obtain ⟨⟨k0, k1⟩, f0, f1, f2⟩ := HS.out w hw; go_simp; try rfl)⟩) Hb0.out ?_
        go_frame
        refine wpAnyZ_take (i := 10) (by simp only [List.getElem?_toArray, List.getElem?_cons_succ, List.getElem?_cons_zero]; rfl) (by kernel_rfl) (by kernel_rfl) (by kernel_rfl) (by kernel_rfl) (by intro _ _ _ h; exact h) (Or.inl ⟨by rfl, fun w hw => by (obtain ⟨⟨k0, k1⟩, f0, f1, f2⟩ := HS.out w hw; go_simp; try rfl)⟩) Hb0.out ?_
        refine wpAnyZ_take (i := 11) (by simp only [List.getElem?_toArray, List.getElem?_cons_succ, List.getElem?_cons_zero]; rfl) (by kernel_rfl) (by kernel_rfl) (by kernel_rfl) (by kernel_rfl) (by intro _ _ _ h; exact h) (Or.inl ⟨by rfl, fun w hw => by (obtain ⟨⟨k0, k1⟩, f0, f1, f2⟩ := HS.out w hw; go_simp; try rfl)⟩) Hb0.out ?_
        go_frame
        refine wpAnyZ_take (i := 12) (by simp only [List.getElem?_toArray, List.getElem?_cons_succ, List.getElem?_cons_zero]; rfl) (by kernel_rfl) (by kernel_rfl) (by kernel_rfl) (by kernel_rfl) (by intro _ _ _ h; exact h) (Or.inl ⟨by rfl, fun w hw => by (obtain ⟨⟨k0, k1⟩, f0, f1, f2⟩ := HS.out w hw; go_simp; try rfl)⟩) Hb0.out ?_
        refine wpAnyZ_take (i := 13) (by simp only [List.getElem?_toArray, List.getElem?_cons_succ, List.getElem?_cons_zero]; rfl) (by kernel_rfl) (by kernel_rfl) (by kernel_rfl) (by kernel_rfl) (by intro _ _ _ h; exact h) (Or.inl ⟨by rfl, fun w hw => by (obtain ⟨⟨k0, k1⟩, f0, f1, f2⟩ := HS.out w hw; go_simp; try rfl)⟩) Hb0.out ?_
        go_frame
        refine wpAnyZ_next (i := 14) (by kernel_rfl) (by simp only [List.getElem?_toArray, List.getElem?_cons_succ, List.getElem?_cons_zero]; rfl) (fun Kc hKc => ?_)
        go_simp
        have Hc := Hcall.out params false W0 HA0.out
        unfold fnVal at Hc
        refine Hc.mono ?_
        rintro E w5 ⟨rfl, hb5⟩
        rw [Hz.out]
        have Hb5 : Hid (Below G W3 w5) := Hb0.out.trans (hb5.mono (by omega))
        have Hg5 : Hid (GoesAt w5 G n (p.str params) i false) := Hg0.out.later hb5 q0
        have q5 : G < w5.heap.size := Nat.lt_of_lt_of_le q0 hb5.size
        clear hb5 Hc
        refine hKc.out _ _ (fun _ => Hb5.out) ?_
        clear hKc Kc
        try go_frame
        refine wpAnyZ_next (i := 15) (by kernel_rfl) (by simp only [List.getElem?_toArray, List.getElem?_cons_succ, List.getElem?_cons_zero]; rfl) (fun Kc hKc => ?_)
        go_simp
        refine hKc.out _ _ (fun _ => Hb5.out) ?_
        clear hKc Kc
        try go_frame
        refine wpAnyZ_next (i := 16) (by kernel_rfl) (by simp only [List.getElem?_toArray, List.getElem?_cons_succ, List.getElem?_cons_zero]; rfl) (fun Kc hKc => ?_)
        have g0 := Hg5.out.at_ hin
        have g1 := Hg5.out.free i
        go_simp
        refine hKc.out _ _ (fun h => absurd rfl h) ?_
        clear hKc Kc g0 g1
        refine wpAnyZ_done (by kernel_rfl) ?_ _
        obtain ⟨W6, hW6⟩ : ∃ w : World, w = w5.setCell ⟨G, i, none⟩ (.bool z) := ⟨_, rfl⟩
        rw [← hW6]
        have Hb6 : Hid (Below G W3 W6) := by rw [hW6]; exact Hb5.out.setCell (Nat.le_refl _) _
        have Hg6 : Hid (GoesAt W6 G n (p.str params) i z) := by rw [hW6]; exact Hg5.out.put z
        have q6 : G < W6.heap.size := by rw [hW6, World.size_setCell]; exact q5
        have HA6 : Hid (Below W.heap.size W W6) := H3.out.trans (Hb6.out.mono (by have := H3.out.size; omega))
        obtain ⟨⟨c0, c1⟩, -⟩ := HS.out W6 Hb6.out
        clear hW6
        go_wp2_with fail
        refine (r4calls_any p (.slice aw m cw) (.slice (some ⟨b, off, none⟩) n cap) vp vb (i : Int) W6 (HP.out.later HA6.out)).mono ?_
        rintro E w7 ⟨v7, rfl, ho7, hb7⟩
        obtain ⟨L, hL⟩ : ∃ L, L = p.ncalls (i : Int) := ⟨_, rfl⟩
        rw [← hL] at ho7 Hzs
        have hLz : ∀ y ∈ L, 0 ≤ y ∧ y < (i : Int) := fun y hy => ncalls_lt (by rw [← hL]; exact hy)
        have hLl : L.length ≤ 32 := by rw [hL]; have := ncalls_len p (i : Int); rw [← Hl.out.2] at this; omega
        obtain ⟨_, a7, c7, hv7, -⟩ := SliceIn.of_owns ho7
        obtain ⟨lw, hlw⟩ : ∃ lw, lw = L.length := ⟨_, rfl⟩
        rw [← hlw] at hv7
        subst hv7
        have hlw32 : lw ≤ 32 := by omega
        have HL := Lib.hid (And.intro hlw hLz)
        have hin7 : IntsIn w7 (.slice a7 lw c7) L := SliceIn.of_owns ho7
        obtain ⟨Ba, hBa⟩ : ∃ Ba, Ba = W6.heap.size := ⟨_, rfl⟩
        have hown7 : OwnInts w7 Ba (.slice a7 lw c7) L := by rw [hBa]; exact ho7
        have qBa : G < Ba := by omega
        have H7 := Lib.hid (And.intro hown7 (And.intro (Hb6.out.trans (hb7.mono (by omega))) (Hg6.out.later hb7 q6)))
        have q7 : G < w7.heap.size := Nat.lt_of_lt_of_le q6 hb7.size
        clear ho7 hb7 hL hLz hLl hlw hin7 hown7 hBa c0 c1
        go_wp2_with fail
        go_loopg [11] lw (fun g jv wx => ∃ (j : Nat) (zj : Bool), g = lw - j ∧ jv = .int .i64 (j : Int) ∧ j ≤ lw ∧ (zj = true ↔ z = true ∧ ∀ y ∈ L.take j, p.str params y = true) ∧ GoesAt wx G n (p.str params) i zj ∧ OwnInts wx Ba (.slice a7 lw c7) L ∧ Below G W3 wx ∧ G < wx.heap.size)
        case atStart => exact ⟨0, z, rfl, rfl, Nat.zero_le _, by simp, H7.out.2.2, H7.out.1, H7.out.2.1, q7⟩
        case round =>
          obtain ⟨j, zj, hgj, rfl, hj, hzj, hga, hown, hbw, hGr2⟩ := hrel
          have Hgj := Lib.hid hgj
          have Hj := Lib.hid (And.intro hzj (And.intro hga (And.intro hown hbw)))
          clear hgj hzj hbw
          by_cases hjl : j < lw
          · obtain ⟨y, hy⟩ : ∃ y, L[j]? = some y := ⟨_, List.getElem?_eq_getElem (by rw [← HL.out.1]; exact hjl)⟩
            have hyz := HL.out.2 y (List.mem_of_getElem? hy)
            obtain ⟨yn, rfl⟩ : ∃ yn : Nat, y = (yn : Int) := ⟨y.toNat, by omega⟩
            have hyn : yn < i := by omega
            have hynn : yn < n := by omega
            have g0 := hga.at_ hin
            have gf := hga.free i
            have gy := hga.ahead yn hyn hynn
            obtain ⟨sy, hsy⟩ : ∃ s, s = p.str params (yn : Int) := ⟨_, rfl⟩
            rw [← hsy] at gy
            have Hnx : Hid (∀ z', z' = (zj && sy) → (z' = true ↔ z = true ∧ ∀ y ∈ L.take (j + 1), p.str params y = true)) := fun z' hz' => by
              rw [hz', Bool.and_eq_true, Hj.out.1, take_next hy, hsy]
              simp only [List.mem_append, List.mem_singleton]
              constructor
              · rintro ⟨⟨h1, h2⟩, h3⟩
                exact ⟨h1, fun y hy => by rcases hy with hy | hy; exact h2 y hy; rw [hy]; exact h3⟩
              · rintro ⟨h1, h2⟩
                exact ⟨⟨h1, fun y hy => h2 y (.inl hy)⟩, h2 _ (.inr rfl)⟩
            have Hput : Hid (∀ z', z' = (zj && sy) → ∃ (j' : Nat) (zj' : Bool), lw - (j + 1) = lw - j' ∧ Value.int .i64 (((j + 1 : Nat) : Int)) = .int .i64 (j' : Int) ∧ j' ≤ lw ∧ (zj' = true ↔ z = true ∧ ∀ y ∈ L.take j', p.str params y = true) ∧ GoesAt (wr.setCell ⟨G, i, none⟩ (.bool z')) G n (p.str params) i zj' ∧ OwnInts (wr.setCell ⟨G, i, none⟩ (.bool z')) Ba (.slice a7 lw c7) L ∧ Below G W3 (wr.setCell ⟨G, i, none⟩ (.bool z')) ∧ G < (wr.setCell ⟨G, i, none⟩ (.bool z')).heap.size) := fun z' hz' => by
              refine ⟨j + 1, z', rfl, rfl, hjl, Hnx.out z' hz', Hj.out.2.1.put z', ?_, Hj.out.2.2.2.setCell (Nat.le_refl _) _, by rw [World.size_setCell]; exact hGr2⟩
              refine ⟨Hj.out.2.2.1.1, ?_⟩
              rcases Hj.out.2.2.1.2 with h2 | ⟨g, vcap, cur, e, hg, hgh, r⟩
              · exact .inl h2
              · refine .inr ⟨g, vcap, cur, e, hg, ?_, r⟩
                rw [Below.heap_setCell _ _ _ _ (show g ≠ G by omega)]
                exact hgh
            have hcy : ∃ g0 : Nat, a7 = some ⟨g0, 0, none⟩ ∧ wr.cell? ⟨g0, j, none⟩ = some (.int .i64 (yn : Int)) := by
              rcases hown.form with ⟨h1, h2⟩ | ⟨g, cg, h1, -⟩
              · rw [h2] at hy; simp at hy
              · have e1 : a7 = some ⟨g, 0, none⟩ := by injection h1
                subst e1
                refine ⟨g, rfl, ?_⟩
                rw [hown.cell (k := j) (by rw [← HL.out.1]; exact hjl)]
                simp [List.getD, hy]
            obtain ⟨ga, rfl, hcy⟩ := hcy
            clear hy hyz hga hown hsy
            cases zj
            · go_wp2_with fail
              go_roundg (lw - (j + 1))
              case measure => have := Hgj.out; omega
              case rel => exact Hput.out false rfl
            · go_wp2_with fail
              go_roundg (lw - (j + 1))
              case measure => have := Hgj.out; omega
              case rel => exact Hput.out sy (by simp)
          · obtain rfl : lw = j := by omega
            have Hz1 : Hid (zj = p.str params (i : Int)) := by
              show _ = _
              have h := Hj.out.1
              rw [List.take_of_length_le (by rw [← HL.out.1]; exact Nat.le_refl _)] at h
              rw [Bool.eq_iff_iff, h, Hzs.out]
            clear hga hown hjl
            go_wp2_with fail
            go_roundg (k + 1 - (i + 1))
            case measure => have := Hg.out; omega
            case rel => exact ⟨i + 1, rfl, by go_num, by omega, Hj.out.2.1.next Hz1.out, Hj.out.2.2.2, hGr2⟩
      · obtain rfl : i = k + 1 := by omega
        have g0 := Hi.out.1.ahead k (by omega) hkn
        have hik2 : ¬ (((k + 1 : Nat) : Int) ≤ (k : Int)) := by omega
        clear hbW
        go_wp2_with fail
        go_ret
        exact ⟨by rw [Hr1.out]; rfl, HbW.out⟩
end Go.Proofs.YtgcplcffejbniaaGreat
