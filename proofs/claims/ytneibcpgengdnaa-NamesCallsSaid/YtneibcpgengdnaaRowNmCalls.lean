/- soffitlaw04.NamesCalls returns true at every api.Program and int, and the inputs read behind the call as they did before. No condition. -/
import Derived.Test.YtneibcpgengdnaaN4Check
import Derived.Test.YtneibcpgengdnaaNmSorted
import Derived.Test.YtneibcpgengdnaaNmAwake
import Derived.Test.YtneibcpgengdnaaTrLift
/- R4.Calls: which functions are called. -/
namespace Go.Proofs.Ytneibcpgengdnaa
open Go.RowKit Go.Maps

/-- The first numbers alone. -/
def callsUpto (C : List Int) (i : Nat) : List Int := ((List.range i).filter fun (j : Nat) => decide ((j : Int) ∈ C)).map fun (j : Nat) => (j : Int)
theorem callsUpto_next (C : List Int) (i : Nat) : callsUpto C (i + 1) = callsUpto C i ++ (if (i : Int) ∈ C then [(i : Int)] else []) := by
  unfold callsUpto
  rw [List.range_succ, List.filter_append, List.map_append]
  by_cases h : (i : Int) ∈ C
  · simp [h]
  · simp [h]
theorem callsUpto_len (C : List Int) (i : Nat) : (callsUpto C i).length ≤ i := by
  unfold callsUpto
  rw [List.length_map]
  exact Nat.le_trans (List.length_filter_le _ _) (by simp)
theorem callsUpto_all {C : List Int} {G l : List ByteArray} {N : Nat} (h : ∀ z, z ∈ C ↔ idxs G l z) (hN : G.length ≤ N) : callsUpto C N = callsN G l := by
  refine rise_ext _ _ ?_ (callsN_sorted G l) fun z => ?_
  · unfold callsUpto
    rw [List.pairwise_map]
    exact (List.Pairwise.filter _ List.pairwise_lt_range).imp fun h => by omega
  · rw [callsN_mem, ← h z]
    unfold callsUpto
    rw [List.mem_map]
    constructor
    · rintro ⟨j, hj, rfl⟩
      exact of_decide_eq_true (List.mem_filter.1 hj).2
    · intro hz
      obtain ⟨k, s, rfl, h1, _⟩ := (h z).1 hz
      exact ⟨k, List.mem_filter.2 ⟨List.mem_range.2 (by have := (List.getElem?_eq_some_iff.1 h1).1; omega), decide_eq_true hz⟩, rfl⟩
theorem Fn.nfault_zero {f : Fn} {G : List ByteArray} {i : Nat} (h : (f.nfault G i).1 = 0) : f.nfault G i = (0, 0, 0) := by
  unfold Fn.nfault at h ⊢
  split
  · rename_i h1; rw [if_pos h1] at h; cases h
  · rename_i h1
    rw [if_neg h1] at h
    split
    · rename_i h2; rw [if_pos h2] at h; exact absurd h h2
    · rfl
theorem Pg.nfault_bad' {p : Pg} (h : p.fault.1 ≠ 0) : p.nfault = p.fault := by unfold Pg.nfault; rw [if_pos h]
/-- Where nothing is wrong, no function is. -/
theorem Fn.nfaults_all {l : List Fn} {G : List ByteArray} {k : Nat} (h : (Fn.nfaults l G k).1 = 0) : ∀ (i : Nat) x, l[i]? = some x → (x.nfault (G ++ gAt l i) (k + i)).1 = 0 := by
  induction l generalizing G k with
  | nil => intro i x hx; simp at hx
  | cons y l ih =>
    simp only [Fn.nfaults] at h
    by_cases h0 : (y.nfault G k).1 = 0
    · rw [if_neg (by rw [h0]; decide)] at h
      intro i x hx
      cases i with
      | zero => simp at hx; subst hx; simpa [gAt] using h0
      | succ i =>
        have e : G ++ gAt (y :: l) (i + 1) = G ++ [y.name] ++ gAt l i := by unfold gAt; simp
        rw [e, Nat.add_comm i 1, ← Nat.add_assoc]
        exact ih h i x (by simpa using hx)
    · rw [if_pos h0] at h; exact absurd h h0
set_option maxRecDepth 100000 in
set_option maxHeartbeats 4000000 in
theorem r4calls_any (p : Pg) (vw vf : Value) (vp vb : Nat → Value) (fn : Int) (W : World) (h : PgIn W p vw vf vp vb) : Calls Try.prog 13 #[pgV vw vf, .int .i64 fn] W (RetI (p.ncalls fn) W) := by
  have HP := Lib.hid h
  obtain ⟨hw, hr, hpp, hbb⟩ := h
  obtain ⟨aw, cw, rfl, hwc, hwc2⟩ := hw.row.form
  obtain ⟨a, cap, rfl, hncap, hcap⟩ := hr.form
  obtain ⟨n, hn⟩ : ∃ n, n = p.funcs.length := ⟨_, rfl⟩
  obtain ⟨m, hm⟩ : ∃ m, m = p.widen.length := ⟨_, rfl⟩
  have hn62 : n ≤ 9223372036854775807 := by have : maxLen ≤ 9223372036854775807 := by decide
                                            omega
  have Hl := Lib.hid (And.intro hm hn)
  rw [← hn, ← hm] at HP
  rw [← hn, ← hm]
  obtain ⟨W1, hW1⟩ : ∃ W1, W1 = W.alloc (.cells #[.slice aw m cw, .slice a n cap] 26) := ⟨_, rfl⟩
  obtain ⟨B, hB⟩ : ∃ B, B = W.heap.size := ⟨_, rfl⟩
  have hb1 : Below W.heap.size W W1 := by rw [hW1]; exact (Below.refl _ _).alloc (Nat.le_refl _) _
  have c0 : W1.cell? ⟨B, 0, none⟩ = some (.slice aw m cw) := by rw [hW1, hB]; exact World.cell?_alloc_at _ _ _ _ rfl
  have c1 : W1.cell? ⟨B, 1, none⟩ = some (.slice a n cap) := by rw [hW1, hB]; exact World.cell?_alloc_at _ _ _ _ rfl
  have qB : B < W1.heap.size := by rw [hW1, hB]; simp
  have HW1 := Lib.hid (And.intro hW1 hB)
  have H1 := Lib.hid (And.intro hb1 (And.intro c0 c1))
  unfold pgV
  clear hw hr hpp hbb hn hm hW1 hB hb1
  go_enter Try.func13, Try.ntmps13
  go_upto_region 1 with (fail)
  rw [← HW1.out.1, ← HW1.out.2]
  go_wp2_with fail
  refine (r4check_any p (.slice aw m cw) (.slice a n cap) vp vb W1 (PgIn.later HP.out H1.out.1)).mono ?_
  rintro e w2 ⟨rfl, hb2⟩
  obtain ⟨t, ht⟩ : ∃ t, t = p.nfault := ⟨_, rfl⟩
  rw [← ht]
  have Ht := Lib.hid ht
  obtain ⟨ea, eb, ec⟩ := t
  unfold fltV
  obtain ⟨W3, hW3⟩ : ∃ W3, W3 = w2.alloc (.cells #[.int .i64 ea, .int .i64 eb, .int .i64 ec] 29) := ⟨_, rfl⟩
  obtain ⟨D, hD⟩ : ∃ D, D = w2.heap.size := ⟨_, rfl⟩
  have hb3 : Below w2.heap.size w2 W3 := by rw [hW3]; exact (Below.refl _ _).alloc (Nat.le_refl _) _
  have d0 : W3.cell? ⟨D, 0, none⟩ = some (.int .i64 ea) := by rw [hW3, hD]; exact World.cell?_alloc_at _ _ _ _ rfl
  have hb23 := hb2.trans (hb3.mono hb2.size)
  have H3 := Lib.hid (And.intro (H1.out.1.trans (hb23.mono H1.out.1.size)) (And.intro ((hb23.cell (p := ⟨B, 0, none⟩) qB).trans c0) ((hb23.cell (p := ⟨B, 1, none⟩) qB).trans c1)))
  have q3 : B < W3.heap.size := Nat.lt_of_lt_of_le qB hb23.size
  have HW3 := Lib.hid (And.intro hW3 hD)
  clear ht hb2 hW3 hD hb3 hb23 c0 c1
  go_upto_region 2 with (fail)
  rw [← HW3.out.1, ← HW3.out.2]
  obtain ⟨-, c0, c1⟩ := H3.out
  by_cases hbad : ea ≠ 0 ∨ fn < 0 ∨ (n : Int) ≤ fn
  · have Hres : Hid (p.ncalls fn = []) := by
      show _ = _
      unfold Pg.ncalls
      rw [← Ht.out]
      by_cases h1 : ea ≠ 0 ∨ fn < 0
      · exact if_pos h1
      · refine (if_neg h1).trans ?_
        rw [List.getElem?_eq_none (by have := Hl.out.2; omega)]
    have hor : (ea != 0) = true ∨ (ea != 0) = false ∧ fn < 0 ∨ (ea != 0) = false ∧ 0 ≤ fn ∧ (n : Int) ≤ fn := by
      by_cases h1 : ea = 0
      · by_cases h2 : fn < 0
        · exact .inr (.inl ⟨by simp [h1], h2⟩)
        · exact .inr (.inr ⟨by simp [h1], by omega, by omega⟩)
      · exact .inl (by simp [h1])
    clear hbad
    rcases hor with hq | ⟨hq, hf⟩ | ⟨hq, hf, hf2⟩
    all_goals
      go_wp2_with fail
      go_ret
      exact ⟨_, rfl, by rw [Hres.out]; exact World.ownsRow_nil _ _ _ _, H3.out.1⟩
  · obtain ⟨k, hk⟩ : ∃ k : Nat, fn = (k : Int) := ⟨fn.toNat, by omega⟩
    subst hk
    have hea : ea = 0 := by omega
    subst hea
    have hkn : k < n := by omega
    obtain ⟨f, hf⟩ : ∃ f, p.funcs[k]? = some f := ⟨_, List.getElem?_eq_getElem (by rw [← Hl.out.2]; exact hkn)⟩
    have hf0 : p.fault.1 = 0 := by
      by_cases h : p.fault.1 = 0
      · exact h
      · exfalso
        have h2 := Pg.nfault_bad' h
        rw [← Ht.out] at h2
        rw [← h2] at h
        exact h rfl
    have hgood := Pg.good hf0
    have hz : (Fn.nfaults p.funcs [] 0).1 = 0 := by
      have h2 : p.nfault = Fn.nfaults p.funcs [] 0 := by unfold Pg.nfault; rw [if_neg (by rw [hf0]; decide)]
      rw [← h2, ← Ht.out]
    have hall := Fn.nfaults_all hz
    have hone : (gAt p.funcs k).Nodup := gAt_nodup fun j y _ hy => by have := hall j y hy; exact this
    have hfz : (f.nfault (gAt p.funcs k) k).1 = 0 := by have := hall k f hf; rw [List.nil_append, Nat.zero_add] at this; exact this
    have Hres : Hid (p.ncalls (k : Int) = callsN (gAt p.funcs k) (St.ncallss f.body)) := by
      show _ = _
      unfold Pg.ncalls
      rw [← Ht.out]
      refine (if_neg (by omega)).trans ?_
      rw [Int.toNat_natCast, hf]
    have hn32 : n ≤ 32 := by rw [Hl.out.2]; exact hgood.1
    have Hlook := Lib.hid (r4look_any p (.slice aw m cw) (.slice a n cap) vp vb k f W3 (PgIn.later HP.out H3.out.1) hf hone hgood.1 (hgood.2 k f hf))
    have Hfz := Lib.hid hfz
    have hk1 : ¬ ((k : Int) < 0) := by omega
    have hk2 : ¬ ((n : Int) ≤ (k : Int)) := by omega
    clear hbad hf hf0 hgood hz hall hone hfz
    go_wp2_with fail
    refine Hlook.out.mono ?_
    rintro E w5 ⟨c, bs, kv, K, nn, ll, ee, C, rfl, hb5, hc5, hC5⟩
    obtain ⟨hR5, hCz⟩ := hC5 Hfz.out
    rw [Fn.nfault_zero Hfz.out]
    rw [← Hl.out.2] at hR5
    unfold fltV
    obtain ⟨W6, hW6⟩ : ∃ W6, W6 = w5.alloc (.cells #[.int .i64 0, .int .i64 0, .int .i64 0] 29) := ⟨_, rfl⟩
    have hb6 : Below w5.heap.size w5 W6 := by rw [hW6]; exact (Below.refl _ _).alloc (Nat.le_refl _) _
    obtain ⟨Bo, hBo⟩ : ∃ b, b = W6.heap.size := ⟨_, rfl⟩
    obtain ⟨W7, hW7⟩ : ∃ W7, W7 = W6.alloc (.cells #[] 3) := ⟨_, rfl⟩
    have hb7 : Below W6.heap.size W6 W7 := by rw [hW7]; exact (Below.refl _ _).alloc (Nat.le_refl _) _
    have how7 : OwnInts W7 Bo (.slice (some ⟨Bo, 0, none⟩) 0 0) [] := by rw [hW7, hBo]; exact owns_empty W6 _ _ (Nat.le_refl _)
    have hR6 := hR5.later hb6
    have hb36 : Below W3.heap.size W3 W6 := hb5.trans (hb6.mono hb5.size)
    have HW6 := Lib.hid hW6
    have HW7 := Lib.hid (And.intro hW7 hBo)
    have H6 := Lib.hid (And.intro hR6 (And.intro (H3.out.1.trans (hb36.mono H3.out.1.size)) hCz))
    have H7 := Lib.hid (And.intro how7 (show Below Bo W6 W7 by rw [hBo]; exact hb7))
    have q6 : c < Bo := by rw [hBo]; exact hR6.in
    have q6b : bs < c := hR6.lt
    have q7 : Bo ≤ W7.heap.size := by rw [hBo]; exact hb7.size
    have HBo : Hid (W6.heap.size ≤ Bo ∧ Bo ≤ W6.heap.size) := ⟨by omega, by omega⟩
    clear hb5 hc5 hC5 hR5 hCz hW6 hb6 hBo hW7 hb7 how7 hR6 hb36 Hlook c0 c1 d0
    go_upto_region 5 with (fail)
    rw [← HW6.out]
    go_upto_region 6 with (fail)
    rw [← HW7.out.1, ← HW7.out.2]
    go_wp2_with fail
    go_loopg [8, 9] n (fun g vv iv wx => ∃ i : Nat, g = n - i ∧ iv = .int .i64 (i : Int) ∧ i ≤ n ∧ OwnInts wx Bo vv (callsUpto C i) ∧ Below Bo W6 wx ∧ Bo ≤ wx.heap.size)
    case atStart => exact ⟨0, rfl, rfl, Nat.zero_le _, H7.out.1, H7.out.2, q7⟩
    case round =>
      obtain ⟨i, hg, rfl, hi, hown, hbo, hsz⟩ := hrel
      have Hg := Lib.hid hg
      obtain ⟨_, av, cv, hve, -⟩ := SliceIn.of_owns hown
      obtain ⟨lv, hlv⟩ : ∃ lv, lv = (callsUpto C i).length := ⟨_, rfl⟩
      rw [← hlv] at hve
      subst hve
      have Hlv := Lib.hid hlv
      have hRr : RAt wr c bs (.slice aw m cw) (.slice a n cap) kv K (k : Int) nn ll ee n C := H6.out.1.later (hbo.mono (by have := HBo.out; omega))
      have c7 := hRr.c7
      have qr : c < wr.heap.size := hRr.in
      have Hr := Lib.hid (And.intro hown (And.intro hbo hRr))
      clear hg hown hbo hlv
      by_cases hin : i < n
      · obtain ⟨j0, -⟩ := hRr.calls i hin
        obtain ⟨bb, hbb⟩ : ∃ bb, bb = decide ((i : Int) ∈ C) := ⟨_, rfl⟩
        rw [← hbb] at j0
        have Hbb := Lib.hid hbb
        clear hbb hRr
        cases bb
        · have Hni : Hid (callsUpto C (i + 1) = callsUpto C i) := by
            show _ = _
            rw [callsUpto_next, if_neg (of_decide_eq_false Hbb.out.symm), List.append_nil]
          go_wp2_with fail
          go_roundg (n - (i + 1))
          case measure => have := Hg.out; omega
          case rel => exact ⟨i + 1, rfl, by go_num, hin, by rw [Hni.out]; exact Hr.out.1, Hr.out.2.1, hsz⟩
        · have Hni : Hid (callsUpto C (i + 1) = callsUpto C i ++ [(i : Int)]) := by
            show _ = _
            rw [callsUpto_next, if_pos (of_decide_eq_true Hbb.out.symm)]
          have hlen : (callsUpto C i).length ≤ 1000000000000 := by have := callsUpto_len C i; omega
          have Hlen := Lib.hid hlen
          clear hlen
          go_wp2_with (at_builtin; refine append_int rfl _ _ rfl Bo _ (callsUpto C i) rfl Hr.out.1 (i : Int) rfl Hlen.out hsz ?_; intro v4 w4 hown4 hg4 hfr4 hb4; have H4 := Lib.hid (And.intro hown4 (hb4 Bo W6 Hr.out.2.1 (Nat.le_refl _))); have hsz4 := hg4.size; simp at hsz4; clear hown4 hg4 hfr4 hb4)
          go_roundg (n - (i + 1))
          case measure => have := Hg.out; omega
          case rel => exact ⟨i + 1, rfl, by go_num, hin, by rw [Hni.out]; exact H4.out.1, H4.out.2, by omega⟩
      · obtain rfl : n = i := by omega
        have Hfin : Hid (callsUpto C n = p.ncalls (k : Int)) := by
          show _ = _
          rw [Hres.out]
          exact callsUpto_all H6.out.2.2 (by have := gAt_len p.funcs k; rw [← Hl.out.2] at this; exact this)
        clear hin hRr
        go_wp2_with fail
        go_ret
        refine ⟨_, rfl, ?_, H6.out.2.1.trans (Hr.out.2.1.mono (by have h1 := H6.out.2.1.size; have := HBo.out; omega))⟩
        rw [← Hfin.out]
        exact ownsRow_base_a Hr.out.1 (by have h1 := H6.out.2.1.size; have := HBo.out; omega)
end Go.Proofs.Ytneibcpgengdnaa

/- names: the walk of NamesCalls. -/
namespace Go.Proofs.Ytneibcpgengdnaa
open Go.RowKit Go.Maps

theorem intsIn_at {w : World} {a : Option Addr} {n cap : Nat} {l : List Int} (h : IntsIn w (.slice a n cap) l) {i : Nat} {x : Int} (hx : l[i]? = some x) : ∃ b off, a = some ⟨b, off, none⟩ ∧ b < w.heap.size ∧ w.cell? ⟨b, off + i, none⟩ = some (.int .i64 x) := by
  have hi := (List.getElem?_eq_some_iff.1 hx).1
  obtain ⟨_, a', cap', hv, _, _, _, hc⟩ := h
  cases hv
  obtain ⟨b, off, rfl, hb, hc⟩ := hc (by omega)
  exact ⟨b, off, rfl, hb, hc i _ (by simp [intVs, hx])⟩
set_option maxRecDepth 100000 in
set_option maxHeartbeats 4000000 in
theorem lawCalls_any (W : World) (p : Pg) (vw vf : Value) (vp vb : Nat → Value) (fn : Int) (h : PgIn W p vw vf vp vb) : Calls Try.prog 5 #[pgV vw vf, .int .i64 fn] W (Gives (.bool true) W) := by
  obtain ⟨aw, cw, rfl, -⟩ := h.widen.row.form
  obtain ⟨a, cap, rfl, hc1, hc2⟩ := h.funcs.row.form
  obtain ⟨n, hn⟩ : ∃ n, n = p.funcs.length := ⟨_, rfl⟩
  obtain ⟨m, hm⟩ : ∃ m, m = p.widen.length := ⟨_, rfl⟩
  rw [← hn, ← hm] at h
  rw [← hn, ← hm]
  have HP := Lib.hid h
  obtain ⟨L, hL⟩ : ∃ L, L = p.ncalls fn := ⟨_, rfl⟩
  have HL := Lib.hid hL
  have hLl : L.length ≤ 1000000000 := by
    rw [hL]
    unfold Pg.ncalls
    by_cases h0 : p.nfault.1 ≠ 0 ∨ fn < 0
    · rw [if_pos h0]; simp
    · rw [if_neg h0]
      cases hf : p.funcs[fn.toNat]? with
      | none => simp
      | some f =>
        simp only
        unfold callsN
        rw [List.length_map]
        refine Nat.le_trans (List.length_filter_le _ _) ?_
        rw [List.length_range]
        have h1 := gAt_len p.funcs fn.toNat
        by_cases hz : p.fault.1 = 0
        · have := (Pg.good hz).1; omega
        · exact absurd (.inl (by rw [Pg.nfault_bad' hz]; exact hz)) h0
  obtain ⟨lw, hlw⟩ : ∃ lw, lw = L.length := ⟨_, rfl⟩
  have Hlw := Lib.hid hlw
  have hlw2 : lw ≤ 1000000000 := by omega
  obtain ⟨W1, hW1⟩ : ∃ W1, W1 = W.alloc (.cells #[.slice aw m cw, .slice a n cap] 26) := ⟨_, rfl⟩
  obtain ⟨B, hB⟩ : ∃ B, B = W.heap.size := ⟨_, rfl⟩
  have hb1 : Below W.heap.size W W1 := by rw [hW1]; exact (Below.refl _ _).alloc (Nat.le_refl _) _
  have c0 : W1.cell? ⟨B, 0, none⟩ = some (.slice aw m cw) := by rw [hW1, hB]; exact World.cell?_alloc_at _ _ _ _ rfl
  have c1 : W1.cell? ⟨B, 1, none⟩ = some (.slice a n cap) := by rw [hW1, hB]; exact World.cell?_alloc_at _ _ _ _ rfl
  have qB : B < W1.heap.size := by rw [hW1, hB]; simp
  have HW1 := Lib.hid (And.intro hW1 hB)
  have H1 := Lib.hid (And.intro hb1 (And.intro c0 c1))
  unfold pgV
  clear h hn hm hL hLl hlw hW1 hB hb1 c0 c1
  go_enter Try.func5, Try.ntmps5
  go_upto_region 1 with (fail)
  rw [← HW1.out.1, ← HW1.out.2]
  go_wp2_with fail
  refine (nawake_any W1).mono ?_
  rintro e w2 ⟨rfl, hb2⟩
  have d0 := (hb2.cell (p := ⟨B, 0, none⟩) qB).trans H1.out.2.1
  have d1 := (hb2.cell (p := ⟨B, 1, none⟩) qB).trans H1.out.2.2
  have H2 := Lib.hid (And.intro (H1.out.1.trans (hb2.mono H1.out.1.size)) (And.intro d0 d1))
  have q2 : B < w2.heap.size := Nat.lt_of_lt_of_le qB hb2.size
  clear hb2
  go_wp2_with fail
  refine (r4calls_any p (.slice aw m cw) (.slice a n cap) vp vb fn w2 (HP.out.later H2.out.1)).mono ?_
  rintro e w3 ⟨v3, rfl, hv3, hb3⟩
  rw [← HL.out] at hv3
  obtain ⟨_, ax, cx, hve, -⟩ := SliceIn.of_owns hv3
  rw [← Hlw.out] at hve
  subst hve
  have hin3 : IntsIn w3 (.slice ax lw cx) L := SliceIn.of_owns hv3
  have H3 := Lib.hid (And.intro (H2.out.1.trans (hb3.mono H2.out.1.size)) (And.intro ((hb3.cell (p := ⟨B, 0, none⟩) q2).trans H2.out.2.1) (And.intro ((hb3.cell (p := ⟨B, 1, none⟩) q2).trans H2.out.2.2) hin3)))
  have q3 : B < w3.heap.size := Nat.lt_of_lt_of_le q2 hb3.size
  obtain ⟨V3, hV3⟩ : ∃ V : World, V = w3 := ⟨_, rfl⟩
  subst hV3
  clear hb3 hv3 hin3 d0 d1
  go_wp2_with fail
  go_loopg [14] 3 (fun g tv wx => ∃ t : Nat, g = 3 - t ∧ tv = .int .i64 (t : Int) ∧ t ≤ 3 ∧ Below V3.heap.size V3 wx)
  case atStart => exact ⟨0, rfl, rfl, by decide, Below.refl _ _⟩
  case round =>
    obtain ⟨t, hg, rfl, ht, hbt⟩ := hrel
    obtain ⟨Vt, hVt⟩ : ∃ V : World, V = wr := ⟨_, rfl⟩
    subst hVt
    have Hg := Lib.hid hg
    have Hbt := Lib.hid hbt
    clear hg
    by_cases ht3 : t < 3
    · have c0 := (hbt.cell (p := ⟨B, 0, none⟩) q3).trans H3.out.2.1
      have c1 := (hbt.cell (p := ⟨B, 1, none⟩) q3).trans H3.out.2.2.1
      have qt : B < Vt.heap.size := Nat.lt_of_lt_of_le q3 hbt.size
      clear hbt
      go_wp2_with fail
      refine (ncalls_any p (.slice aw m cw) (.slice a n cap) vp vb fn Vt (HP.out.later (H3.out.1.trans (Hbt.out.mono H3.out.1.size)))).mono ?_
      rintro e w5 ⟨v5, rfl, hv5, hb5⟩
      rw [← HL.out] at hv5
      obtain ⟨_, a5, c5, hve, -⟩ := SliceIn.of_owns hv5
      rw [← Hlw.out] at hve
      subst hve
      obtain ⟨V5, hV5⟩ : ∃ V : World, V = w5 := ⟨_, rfl⟩
      subst hV5
      have H5 := Lib.hid (And.intro hv5 hb5)
      obtain ⟨Bt, hBt⟩ : ∃ b, b = Vt.heap.size := ⟨_, rfl⟩
      have HBt : Hid (Bt ≤ Vt.heap.size ∧ Vt.heap.size ≤ Bt) := ⟨by omega, by omega⟩
      have hbt2 : V3.heap.size ≤ Bt := by rw [hBt]; exact Hbt.out.size
      rw [← hBt] at hv5 hb5
      have H5b := Lib.hid (And.intro hv5 (And.intro hb5 (show Bt ≤ V5.heap.size from hb5.size |> fun h => by omega)))
      clear hv5 hb5 hBt c0 c1
      go_wp2_with fail
      go_loopg [27] lw (fun g iv wx => ∃ (i : Nat) (Li : List Int), g = lw - i ∧ iv = .int .i64 (i : Int) ∧ i ≤ lw ∧ OwnInts wx Bt (.slice a5 lw c5) Li ∧ Li.length = lw ∧ (∀ j, i ≤ j → Li[j]? = L[j]?) ∧ Below Bt Vt wx ∧ Bt ≤ wx.heap.size)
      case atStart => exact ⟨0, L, rfl, rfl, Nat.zero_le _, H5b.out.1, Hlw.out.symm, fun _ _ => rfl, H5b.out.2.1, H5b.out.2.2⟩
      case round =>
        obtain ⟨i, Li, hg, rfl, hi, hown, hlen, hsame, hbx, hsz⟩ := hrel
        have Hg2 := Lib.hid hg
        have Hi := Lib.hid (And.intro hown (And.intro hlen (And.intro hsame hbx)))
        clear hg hsame
        by_cases hin : i < lw
        · obtain ⟨x, hx⟩ : ∃ x, L[i]? = some x := ⟨_, List.getElem?_eq_getElem (by rw [← Hlw.out]; exact hin)⟩
          have hw3 := SliceIn.later H3.out.2.2.2 (Hbt.out.trans (hbx.mono hbt2))
          obtain ⟨bw, ow, hax, hbw, hcw⟩ := intsIn_at hw3 hx
          subst hax
          rcases hown.form with ⟨h1, h2⟩ | ⟨g, cg, h1, hg1, hg2, _⟩
          · rw [h2] at hlen; simp at hlen; omega
          · rw [hlen] at h1
            cases h1
            have hcell := hown.cell (k := i) (by omega)
            have hfree := hown.free i
            have hxi : Li.getD i 0 = x := by rw [List.getD, Hi.out.2.2.1 i (Nat.le_refl _), hx]; rfl
            rw [hxi] at hcell
            clear hown hlen hx hw3 hbx hxi
            go_wp2_with (go_quiet (fail))
            have hbd := below_draws wr nq
            have hown2 : OwnInts (wr.drewN nq) Bt (.slice (some ⟨g, 0, none⟩) lw c5) Li := ownsRow_below Hi.out.1 hbd (Nat.le_refl _)
            have Hn := Lib.hid (And.intro (hown2.store i (-7 - (t : Int))) (show Below Bt Vt ((wr.drewN nq).setCell ⟨g, i, none⟩ (.int .i64 (-7 - (t : Int)))) from (Hi.out.2.2.2.trans (hbd.mono hsz)).setCell hg1 _))
            clear hbd hown2
            go_roundg (lw - (i + 1))
            case measure => have := Hg2.out; omega
            case rel => exact ⟨i + 1, Li.set i (-7 - (t : Int)), rfl, by go_num, hin, Hn.out.1, by rw [List.length_set]; exact Hi.out.2.1, fun j hj => by rw [List.getElem?_set_ne (by omega)]; exact Hi.out.2.2.1 j (by omega), Hn.out.2, by rw [size_set]; exact hsz⟩
        · clear hown hbx
          go_wp2_with fail
          go_loopg [7, 45] 5 (fun g vv iv wx => ∃ (k : Nat) (l : List Int), g = 5 - k ∧ iv = .int .i64 (k : Int) ∧ k ≤ 5 ∧ OwnInts wx Bt vv l ∧ l.length ≤ lw + k ∧ Below Bt Vt wx ∧ Bt ≤ wx.heap.size)
          case atStart => exact ⟨0, Li, rfl, rfl, by decide, Hi.out.1, by rw [Hi.out.2.1]; exact Nat.le_refl _, Hi.out.2.2.2, hsz⟩
          case round =>
            obtain ⟨k, l, hg3, rfl, hk, hown, hll, hbx, hsz3⟩ := hrel
            have Hg3 := Lib.hid hg3
            obtain ⟨_, av, cv, hve, -⟩ := SliceIn.of_owns hown
            obtain ⟨lv, hlv⟩ : ∃ lv, lv = l.length := ⟨_, rfl⟩
            rw [← hlv] at hve
            subst hve
            have Hlv := Lib.hid hlv
            have Hk := Lib.hid (And.intro hown (And.intro hbx hll))
            have Hlen : Hid (l.length ≤ 1000000000000) := by show _ ≤ _; omega
            clear hg3 hown hbx hll hlv
            by_cases hk5 : k < 5
            · go_wp2_with (at_builtin; refine append_int rfl _ _ rfl Bt _ l rfl Hk.out.1 (-9) rfl Hlen.out hsz3 ?_; intro v4 w4 hown4 hg4 hfr4 hb4; have H4 := Lib.hid (And.intro hown4 (hb4 Bt Vt Hk.out.2.1 (Nat.le_refl _))); have hsz4 := hg4.size; simp at hsz4; clear hown4 hg4 hfr4 hb4)
              go_roundg (5 - (k + 1))
              case measure => have := Hg3.out; omega
              case rel => exact ⟨k + 1, l ++ [-9], rfl, by go_num, by omega, H4.out.1, by have := Hk.out.2.2; simp; omega, H4.out.2, by omega⟩
            · go_wp2_with fail
              go_roundg (3 - (t + 1))
              case measure => have := Hg.out; omega
              case rel => exact ⟨t + 1, rfl, by go_num, by omega, Hbt.out.trans (Hk.out.2.1.mono hbt2)⟩
    · clear hbt
      go_wp2_with fail
      go_ret
      exact ⟨by rfl, H3.out.1.trans (Hbt.out.mono H3.out.1.size)⟩
end Go.Proofs.Ytneibcpgengdnaa

namespace Go.Proofs.Ytneibcpgengdnaa
open Go.Joins Go.ChangeShapes Go.WideShapes Go.ChangeAt Go.RowKit Go.Deep

set_option maxRecDepth 100000 in
theorem namesCalls_lifted (os : Os) (started : os.Started) (H : Type) (enc : TypeId × Value → H) :
    ReturnsInHanded {} Try.checked os 5 .any (Rows.namesCallsSpec.pre6 enc Try.prog Try.f5 Rows.namesCallsRow.domain false) (Rows.namesCallsSpec.post enc Try.prog Try.f5 false true false false) :=
  lift_prog_int started (by kernel_rfl) Try.func5 rfl rfl rfl (fun _ _ => rfl)
    (ChangeSpec.witness6 (enc := enc) (C := Try.checked) false ⟨#[], #[.agg #[.slice none 0 0, .slice none 0 0], .int .i64 0], []⟩ 8 (by kernel_rfl) (by kernel_rfl) (by kernel_rfl) (by kernel_rfl))
    (fun W p vw vf vp vb k h _ => lawCalls_any W p vw vf vp vb k h)

theorem namesCalls_holds : Rows.NamesCallsSaid :=
  OpenClaim.holds_of_wide 5 Try.f5 rfl rfl rfl rfl rfl rfl rfl ⟨rfl, rfl, rfl, rfl, rfl⟩ rfl rfl rfl rfl rfl (by kernel_rfl) Try.func5 (by kernel_rfl)
    (of_decide_eq_true (by kernel_rfl)) (by unfold Func.isWrapper; first | (rw [if_pos (by decide +kernel)]; kernel_rfl) | (rw [if_neg (by decide +kernel)]; exact ⟨rfl, rfl⟩))
    (fun os started H enc _ => namesCalls_lifted os started H enc)
end Go.Proofs.Ytneibcpgengdnaa
