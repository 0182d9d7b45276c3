/- soffitlaw04.NamesBreaks returns true at every api.Program and int, and the inputs read behind the call as they did before. No condition. -/
import Derived.Test.YtneibcpgengdnaaNmBrkM
import Derived.Test.YtneibcpgengdnaaNmLawAhead
import Derived.Test.YtneibcpgengdnaaTrLift
namespace Go.Proofs.Ytneibcpgengdnaa
open Go.RowKit Go.Maps

theorem intsIn_at {w : World} {a : Option Addr} {n cap : Nat} {l : List Int} (h : IntsIn w (.slice a n cap) l) {i : Nat} {x : Int} (hx : l[i]? = some x) : ∃ b off, a = some ⟨b, off, none⟩ ∧ b < w.heap.size ∧ w.cell? ⟨b, off + i, none⟩ = some (.int .i64 x) := by
  have hi := (List.getElem?_eq_some_iff.1 hx).1
  obtain ⟨_, a', cap', hv, _, _, _, hc⟩ := h
  cases hv
  obtain ⟨b, off, rfl, hb, hc⟩ := hc (by omega)
  exact ⟨b, off, rfl, hb, hc i _ (by simp [intVs, hx])⟩
theorem neq_flt (w : World) (a b c : Int) : (Go.binOp .neq 29 (.agg #[.int .i64 a, .int .i64 b, .int .i64 c]) (.agg #[.int .i64 a, .int .i64 b, .int .i64 c])).run Try.prog w = .ok (.bool false) w := by
  simp [go_sem, Try.underlying29, Try.underlying27, Try.underlying3]
theorem eql_flt (w : World) (a b c : Int) : (Go.binOp .eql 29 (.agg #[.int .i64 a, .int .i64 b, .int .i64 c]) (.agg #[.int .i64 a, .int .i64 b, .int .i64 c])).run Try.prog w = .ok (.bool true) w := by
  simp [go_sem, Try.underlying29, Try.underlying27, Try.underlying3]
theorem neq_flt2 {a b c a' b' c' : Int} (h : ¬ (a = a' ∧ b = b' ∧ c = c')) (w : World) : (Go.binOp .neq 29 (.agg #[.int .i64 a, .int .i64 b, .int .i64 c]) (.agg #[.int .i64 a', .int .i64 b', .int .i64 c'])).run Try.prog w = .ok (.bool true) w := by
  by_cases h1 : a = a' <;> by_cases h2 : b = b' <;> by_cases h3 : c = c' <;> simp_all [go_sem, Try.underlying29, Try.underlying27, Try.underlying3]

set_option maxRecDepth 100000 in
set_option maxHeartbeats 4000000 in
theorem lawBreaks_any (W : World) (p : Pg) (vw vf : Value) (vp vb : Nat → Value) (k : Int) (h : PgIn W p vw vf vp vb) (hk : -9223372036854775808 ≤ k ∧ k ≤ 9223372036854775807) : Calls Try.prog 7 #[pgV vw vf, .int .i64 k] W (Gives (.bool true) W) := by
  obtain ⟨aw, cw, rfl, -⟩ := h.widen.row.form
  obtain ⟨a, cap, rfl, hc1, hc2⟩ := h.funcs.row.form
  obtain ⟨n, hn⟩ : ∃ n, n = p.funcs.length := ⟨_, rfl⟩
  obtain ⟨m, hm⟩ : ∃ m, m = p.widen.length := ⟨_, rfl⟩
  rw [← hn, ← hm] at h
  rw [← hn, ← hm]
  rw [← hn] at hc1
  have hn62 : n ≤ 9223372036854775807 := by have : maxLen ≤ 9223372036854775807 := by decide
                                            omega
  obtain ⟨hk1, hk2⟩ := hk
  have HP := Lib.hid h
  have Hl := Lib.hid (And.intro hm hn)
  obtain ⟨W1, hW1⟩ : ∃ W1, W1 = W.alloc (.cells #[.slice aw m cw, .slice a n cap] 26) := ⟨_, rfl⟩
  obtain ⟨B, hB⟩ : ∃ B, B = W.heap.size := ⟨_, rfl⟩
  have hb1 : Below W.heap.size W W1 := by rw [hW1]; exact (Below.refl _ _).alloc (Nat.le_refl _) _
  have c0 : W1.cell? ⟨B, 0, none⟩ = some (.slice aw m cw) := by rw [hW1, hB]; exact World.cell?_alloc_at _ _ _ _ rfl
  have c1 : W1.cell? ⟨B, 1, none⟩ = some (.slice a n cap) := by rw [hW1, hB]; exact World.cell?_alloc_at _ _ _ _ rfl
  have qB : B < W1.heap.size := by rw [hW1, hB]; simp
  have HW1 := Lib.hid (And.intro hW1 hB)
  have H1 := Lib.hid (And.intro hb1 (And.intro c0 c1))
  unfold pgV
  clear h hn hm hW1 hB hb1 c0 c1
  go_enter Try.func7, Try.ntmps7
  go_upto_region 1 with (fail)
  rw [← HW1.out.1, ← HW1.out.2]
  go_wp2_with fail
  refine (nawake_any W1).mono ?_
  rintro e w2 ⟨rfl, hb2⟩
  have d0 := (hb2.cell (p := ⟨B, 0, none⟩) qB).trans H1.out.2.1
  have d1 := (hb2.cell (p := ⟨B, 1, none⟩) qB).trans H1.out.2.2
  have H2 := Lib.hid (And.intro (H1.out.1.trans (hb2.mono H1.out.1.size)) (And.intro d0 d1))
  have q2 : B < w2.heap.size := Nat.lt_of_lt_of_le qB hb2.size
  clear hb2
  go_wp2_with fail
  refine (ncheck_any p (.slice aw m cw) (.slice a n cap) vp vb w2 (HP.out.later H2.out.1)).mono ?_
  rintro e w3 ⟨rfl, hb3⟩
  obtain ⟨t, ht⟩ : ∃ t, t = p.nfault := ⟨_, rfl⟩
  rw [← ht]
  have Ht := Lib.hid ht
  obtain ⟨ea, eb, ec⟩ := t
  unfold fltV
  have H3 := Lib.hid (And.intro (H2.out.1.trans (hb3.mono H2.out.1.size)) (And.intro ((hb3.cell (p := ⟨B, 0, none⟩) q2).trans d0) ((hb3.cell (p := ⟨B, 1, none⟩) q2).trans d1)))
  have q3 : B < w3.heap.size := Nat.lt_of_lt_of_le q2 hb3.size
  clear ht hb3 d0 d1
  obtain ⟨-, c0, c1⟩ := H3.out
  have hfe := run_faultE
  by_cases hin : ea = 0 ∧ 0 ≤ k ∧ k < n
  · obtain ⟨hg, hk0, hkn⟩ := hin
    subst hg
    obtain ⟨j, rfl⟩ : ∃ j : Nat, k = (j : Int) := ⟨k.toNat, by omega⟩
    have hjn : j < n := by omega
    obtain ⟨f, hf⟩ : ∃ f, p.funcs[j]? = some f := ⟨_, List.getElem?_eq_getElem (by rw [← Hl.out.2]; exact hjn)⟩
    have hnz : p.nfault.1 = 0 := by rw [← Ht.out]
    have hfz : p.fault.1 = 0 := by
      apply Classical.byContradiction
      intro h
      rw [Pg.nfault_bad h] at hnz
      exact h hnz
    have Hf := Lib.hid (And.intro hf (And.intro hfz hnz))
    have hd1 : decide ((j : Int) < 0) = false := by simp
    have hd2 : decide ((n : Int) ≤ (j : Int)) = false := by simp; omega
    clear hf hfz hnz hk0 hkn
    go_wp2_with fail
    clear hd1 hd2
    refine (copy_any p (.slice aw m cw) (.slice a n cap) vp vb W HP.out (Pg.small_of Hf.out.2.1) w3 H3.out.1).mono ?_
    rintro e w6 ⟨v6, rfl, hb6, ho6⟩
    obtain ⟨mid, gw, ocw, g, ocap, vp', vb', q, m0, m1, gp, cp, rfl, how, hoc, ho⟩ := ho6
    have HO := Lib.hid ho
    have hgl := ho.fns.hg
    have hgmid := ho.hw
    rw [← Hl.out.1] at how ⊢
    rw [← Hl.out.2] at hoc ⊢
    have hoc2 : n ≤ ocap := Nat.le_of_lt hoc
    obtain ⟨abo, cbo, hvb, -⟩ := (ho.fns.each j f (by rw [← Hl.out.2]; exact hjn) Hf.out.1).body.reads.form
    obtain ⟨nb, hnb⟩ : ∃ nb, nb = f.body.length := ⟨_, rfl⟩
    rw [← hnb] at hvb
    have Hnb : Hid (f.body.length = nb) := hnb.symm
    have gc2 : w6.cell? ⟨g, j * 3 + 2, none⟩ = some (.slice abo nb cbo) := by
      obtain ⟨_, _, _, k4⟩ := ownsRow_rowOf ho.fns.own (fnRow_len p.funcs vp' vb')
      exact k4 j 2 _ (by rw [← Hl.out.2]; exact hjn) (by decide) (by rw [fnRow_at Hf.out.1, hvb]; rfl)
    have gfz : w6.frozen? ⟨g, j * 3 + 2, none⟩ = false := World.ownsRow.frozenAt ho.fns.own _
    have Hvb := Lib.hid hvb
    have H6 := Lib.hid (And.intro hb6 (H3.out.1.trans (hb6.mono H3.out.1.size)))
    have q6 := hb6.size
    rw [← hb6.cell (p := ⟨B, _, none⟩) q3] at c0 c1
    obtain ⟨C, hC⟩ : ∃ C, C = w6.heap.size := ⟨_, rfl⟩
    obtain ⟨W7, hW7⟩ : ∃ w : World, w = w6.alloc (.cells #[.slice (some ⟨gw, 0, none⟩) m ocw, .slice (some ⟨g, 0, none⟩) n ocap] 26) := ⟨_, rfl⟩
    have hb7 : Below w6.heap.size w6 W7 := by rw [hW7]; exact (Below.refl _ _).alloc (Nat.le_refl _) _
    have d0 : W7.cell? ⟨C, 0, none⟩ = some (.slice (some ⟨gw, 0, none⟩) m ocw) := by rw [hW7, hC]; exact World.cell?_alloc_at _ _ _ _ rfl
    have d1 : W7.cell? ⟨C, 1, none⟩ = some (.slice (some ⟨g, 0, none⟩) n ocap) := by rw [hW7, hC]; exact World.cell?_alloc_at _ _ _ _ rfl
    have q7 : C < W7.heap.size ∧ w6.heap.size ≤ C ∧ C ≤ w6.heap.size := by rw [hW7, hC]; simp
    have HW7 := Lib.hid (And.intro hW7 hC)
    rw [← hb7.cell (p := ⟨B, _, none⟩) (by show B < _; omega)] at c0 c1
    rw [← hb7.cell (p := ⟨g, _, none⟩) hgl.2] at gc2
    rw [← hb7.frozen (p := ⟨g, _, none⟩) hgl.2] at gfz
    have H7 := Lib.hid hb7
    unfold pgV
    clear hb6 ho hvb hnb hW7 hC hb7
    go_upto_region 6 with (fail)
    rw [← HW7.out.1, ← HW7.out.2]
    have gc0 : W7.cell? ⟨g, j * 3, none⟩ = some (.string f.name) := by
      obtain ⟨_, _, _, k4⟩ := ownsRow_rowOf HO.out.fns.own (fnRow_len p.funcs vp' vb')
      exact (H7.out.cell (p := ⟨g, _, none⟩) hgl.2).trans (k4 j 0 _ (by rw [← Hl.out.2]; exact hjn) (by decide) (by rw [fnRow_at Hf.out.1]; rfl))
    have Hbody6 : Hid (StsIn w6 f.body (.slice abo nb cbo)) := by
      have := (HO.out.fns.each j f (by rw [← Hl.out.2]; exact hjn) Hf.out.1).body.reads
      rw [Hvb.out] at this
      exact this
    go_wp2_with fail
    refine (last_any _ _ _ Hbody6.out W7 H7.out (by have := ((Pg.good Hf.out.2.1).2 j f Hf.out.1).total; omega)).mono ?_
    rintro e w8 ⟨rfl, hb8⟩
    obtain ⟨N, hN⟩ : ∃ N, N = St.nums f.body := ⟨_, rfl⟩
    rw [← hN]
    have hN2 : N ≤ 4096 := by
      have h1 := ((Pg.good Hf.out.2.1).2 j f Hf.out.1).total
      have h2 := St.nums_le f.body
      omega
    have HN := Lib.hid hN
    have q8 := hb8.size
    rw [← hb8.cell (p := ⟨B, _, none⟩) (by show B < _; omega)] at c0 c1
    rw [← hb8.cell (p := ⟨C, _, none⟩) q7.1] at d0 d1
    rw [← hb8.cell (p := ⟨g, _, none⟩) (by show g < _; omega)] at gc0 gc2
    rw [← hb8.frozen (p := ⟨g, _, none⟩) (by show g < _; omega)] at gfz
    have H8 : Hid (Below w6.heap.size w6 w8) := H7.out.trans (hb8.mono H7.out.size)
    clear hN hb8
    go_wp2_with fail
    refine (call_any f.name w8).mono ?_
    rintro e w9 ⟨rfl, hb9⟩
    unfold callVs nilV
    have q9 := hb9.size
    rw [← hb9.cell (p := ⟨B, _, none⟩) (by show B < _; omega)] at c0 c1
    rw [← hb9.cell (p := ⟨C, _, none⟩) (by show C < _; omega)] at d0 d1
    rw [← hb9.cell (p := ⟨g, _, none⟩) (by show g < _; omega)] at gc0 gc2
    rw [← hb9.frozen (p := ⟨g, _, none⟩) (by show g < _; omega)] at gfz
    have H9 : Hid (Below w6.heap.size w6 w9) := H8.out.trans (hb9.mono H8.out.size)
    clear hb9
    obtain ⟨R, hR⟩ : ∃ R, R = w9.heap.size := ⟨_, rfl⟩
    obtain ⟨T, hT⟩ : ∃ T, T = w9.heap.size + 1 := ⟨_, rfl⟩
    obtain ⟨W10, hW10⟩ : ∃ w : World, w = (w9.alloc (.cells #[.int .i64 1, .int .i64 0, .string ⟨#[]⟩, .slice none 0 0] 44)).alloc (.cells #[.int .i64 8, .string ⟨#[]⟩, .int .i64 0, .int .i64 0, .int .i64 0, .string ⟨#[]⟩, .slice none 0 0, .int .i64 0, .int .i64 0, .string ⟨#[]⟩, .slice none 0 0, .slice none 0 0, .slice none 0 0, .slice none 0 0, .int .i64 32, .int .i64 10, .string ⟨#[]⟩, .int .i64 0, .int .i64 4, .int .i64 0, .string f.name, .slice none 0 0, .int .i64 0, .int .i64 0, .string ⟨#[]⟩, .slice none 0 0, .slice none 0 0, .slice none 0 0, .slice none 0 0, .int .i64 8, .int .i64 3, .string ⟨#[110, 111, 98, 111, 100, 121]⟩, .int .i64 0, .int .i64 2, .int .i64 0, .string ⟨#[110, 111, 98, 111, 100, 121]⟩, .slice none 0 0, .int .i64 0, .int .i64 0, .string ⟨#[]⟩, .slice none 0 0, .slice none 0 0, .slice none 0 0, .slice none 0 0, .int .i64 8, .int .i64 9, .string ⟨#[]⟩, .int .i64 0, .int .i64 3, .int .i64 0, .string ⟨#[110, 111, 98, 111, 100, 121]⟩, .slice (some ⟨w9.heap.size, 0, none⟩) 1 1, .int .i64 0, .int .i64 0, .string ⟨#[]⟩, .slice none 0 0, .slice none 0 0, .slice none 0 0, .slice none 0 0, .int .i64 8] 48) := ⟨_, rfl⟩
    have hb10 : Below w9.heap.size w9 W10 := by rw [hW10]; exact ((Below.refl _ _).alloc (Nat.le_refl _) _).alloc (by simp) _
    have hz10 : T < W10.heap.size ∧ R < T ∧ w9.heap.size ≤ R := by rw [hW10, World.size_alloc, World.size_alloc]; omega
    have hR10 : ∀ i, W10.cell? ⟨R, i, none⟩ = (#[.int .i64 1, .int .i64 0, .string ⟨#[]⟩, .slice none 0 0] : Array Value)[i]? := fun i => by
      rw [hW10, ((Below.refl _ _).alloc (Nat.le_refl _) _).cell (p := ⟨R, i, none⟩) (by show R < _; rw [hR]; simp)]
      exact World.cell?_alloc_at _ _ _ _ hR
    have hT10 : Hid (∀ i, i < 4 → ∀ (o : Nat) u, o < 15 → (tabRow f R i)[o]? = some u → W10.cell? ⟨T, i * 15 + o, none⟩ = some u) := fun i hi o u ho hu => by
      have e : (#[.int .i64 8, .string ⟨#[]⟩, .int .i64 0, .int .i64 0, .int .i64 0, .string ⟨#[]⟩, .slice none 0 0, .int .i64 0, .int .i64 0, .string ⟨#[]⟩, .slice none 0 0, .slice none 0 0, .slice none 0 0, .slice none 0 0, .int .i64 32, .int .i64 10, .string ⟨#[]⟩, .int .i64 0, .int .i64 4, .int .i64 0, .string f.name, .slice none 0 0, .int .i64 0, .int .i64 0, .string ⟨#[]⟩, .slice none 0 0, .slice none 0 0, .slice none 0 0, .slice none 0 0, .int .i64 8, .int .i64 3, .string ⟨#[110, 111, 98, 111, 100, 121]⟩, .int .i64 0, .int .i64 2, .int .i64 0, .string ⟨#[110, 111, 98, 111, 100, 121]⟩, .slice none 0 0, .int .i64 0, .int .i64 0, .string ⟨#[]⟩, .slice none 0 0, .slice none 0 0, .slice none 0 0, .slice none 0 0, .int .i64 8, .int .i64 9, .string ⟨#[]⟩, .int .i64 0, .int .i64 3, .int .i64 0, .string ⟨#[110, 111, 98, 111, 100, 121]⟩, .slice (some ⟨w9.heap.size, 0, none⟩) 1 1, .int .i64 0, .int .i64 0, .string ⟨#[]⟩, .slice none 0 0, .slice none 0 0, .slice none 0 0, .slice none 0 0, .int .i64 8] : Array Value) = (rowsOf (tabRow f R) 4).toArray := by rw [hR]; rfl
      rw [hW10, e, World.cell?_alloc_at _ _ _ _ (by rw [hT]; simp), List.getElem?_toArray, rowsOf_get (fun i _ => tabRow_len f R i) i o hi ho]
      exact hu
    have HW10 := Lib.hid (And.intro hW10 (And.intro hR hT))
    have Hex : Hid (W10.cell? ⟨R, 0, none⟩ = some (.int .i64 1) ∧ W10.cell? ⟨R, 1, none⟩ = some (.int .i64 0) ∧ W10.cell? ⟨R, 2, none⟩ = some (.string ⟨#[]⟩) ∧ W10.cell? ⟨R, 3, none⟩ = some nilV) := ⟨hR10 0, hR10 1, hR10 2, hR10 3⟩
    have kk : ∀ b i, b < w9.heap.size → W10.cell? ⟨b, i, none⟩ = w9.cell? ⟨b, i, none⟩ := fun b i h => hb10.cell (p := ⟨b, i, none⟩) h
    have hcs : W10.cell? ⟨B, 0, none⟩ = some (.slice aw m cw) ∧ W10.cell? ⟨B, 1, none⟩ = some (.slice a n cap) ∧ W10.cell? ⟨C, 0, none⟩ = some (.slice (some ⟨gw, 0, none⟩) m ocw) ∧ W10.cell? ⟨C, 1, none⟩ = some (.slice (some ⟨g, 0, none⟩) n ocap) := ⟨(kk _ _ (by omega)).trans c0, (kk _ _ (by omega)).trans c1, (kk _ _ (by omega)).trans d0, (kk _ _ (by omega)).trans d1⟩
    have hgs : W10.cell? ⟨g, j * 3 + 2, none⟩ = some (.slice abo nb cbo) ∧ W10.frozen? ⟨g, j * 3 + 2, none⟩ = false := ⟨(kk _ _ (by omega)).trans gc2, (hb10.frozen (p := ⟨g, _, none⟩) (by show g < _; omega)).trans gfz⟩
    have H10 : Hid (Below w6.heap.size w6 W10) := H9.out.trans (hb10.mono H9.out.size)
    have Hcs := Lib.hid (And.intro hcs hgs)
    have q10 := hb10.size
    clear hW10 hR hT hb10 hR10 kk hcs hgs c0 c1 d0 d1 gc0 gc2 gfz
    go_upto_region 10 with (fail)
    rw [← HW10.out.1, ← HW10.out.2.2]
    go_loopg [61] 4 (fun gk iv wx => ∃ i : Nat, gk = 4 - i ∧ iv = .int .i64 (i : Int) ∧ i ≤ 4 ∧ Oth (· = g) W10 wx ∧ (∀ q u, q ≠ j * 3 + 2 → W10.cell? ⟨g, q, none⟩ = some u → wx.cell? ⟨g, q, none⟩ = some u) ∧ (∃ ax nx cx, wx.cell? ⟨g, j * 3 + 2, none⟩ = some (.slice ax nx cx)) ∧ wx.frozen? ⟨g, j * 3 + 2, none⟩ = false)
    case atStart => exact ⟨0, rfl, rfl, by omega, Oth.refl _ _, fun _ _ _ h => h, ⟨_, _, _, Hcs.out.2.1⟩, Hcs.out.2.2⟩
    case round =>
      obtain ⟨i, hgk, rfl, hi, hO, hG, ⟨ax, nx, cx, hgx⟩, hgf⟩ := hrel
      have Hg := Lib.hid hgk
      have HO2 := Lib.hid (And.intro hO hG)
      have hsz := hO.size
      clear hgk hO hG
      by_cases hi4 : i < 4
      · obtain ⟨x, hx⟩ : ∃ x, x = tabX f i := ⟨_, rfl⟩
        obtain ⟨e, he⟩ : ∃ e, e = tabE i := ⟨_, rfl⟩
        obtain ⟨av, hav⟩ : ∃ e, e = tabA R i := ⟨_, rfl⟩
        obtain ⟨an, han⟩ : ∃ e, e = tabN i := ⟨_, rfl⟩
        have k := fun o u ho hu => (HO2.out.1.cell (p := ⟨T, i * 15 + o, none⟩) (by show T < _; omega) (by show ¬ T = g; omega)).trans (hT10.out i hi4 o u ho hu)
        have hrow : tabRow f R i = [.int .i64 x.kind, .string x.name, .int .i64 x.n, .int .i64 x.a.kind, .int .i64 x.a.n, .string x.a.name, .slice av an an, .int .i64 x.b.kind, .int .i64 x.b.n, .string x.b.name, .slice none 0 0, .slice none 0 0, .slice none 0 0, .slice none 0 0, .int .i64 e] := by rw [hx, he, hav, han]; rfl
        rw [hrow] at k
        have t0 := k 0 _ (by decide) rfl
        have t1 := k 1 _ (by decide) rfl
        have t2 := k 2 _ (by decide) rfl
        have t3 := k 3 _ (by decide) rfl
        have t4 := k 4 _ (by decide) rfl
        have t5 := k 5 _ (by decide) rfl
        have t6 := k 6 _ (by decide) rfl
        have t7 := k 7 _ (by decide) rfl
        have t8 := k 8 _ (by decide) rfl
        have t9 := k 9 _ (by decide) rfl
        have t10 := k 10 _ (by decide) rfl
        have t11 := k 11 _ (by decide) rfl
        have t12 := k 12 _ (by decide) rfl
        have t13 := k 13 _ (by decide) rfl
        have t14 := k 14 _ (by decide) rfl
        simp only [Nat.add_zero] at t0
        have Hx := Lib.hid (And.intro hx (And.intro he (And.intro hav han)))
        obtain ⟨Y, hY⟩ : ∃ Y, Y = wr.heap.size := ⟨_, rfl⟩
        obtain ⟨W11, hW11⟩ : ∃ w : World, w = wr.alloc (.cells #[.int .i64 x.kind, .string x.name, .int .i64 x.n, .int .i64 x.a.kind, .int .i64 x.a.n, .string x.a.name, .slice av an an, .int .i64 x.b.kind, .int .i64 x.b.n, .string x.b.name, .slice none 0 0, .slice none 0 0, .slice none 0 0, .slice none 0 0, .int .i64 e] 48) := ⟨_, rfl⟩
        have hb11 : Below wr.heap.size wr W11 := by rw [hW11]; exact (Below.refl _ _).alloc (Nat.le_refl _) _
        have q11 : Y < W11.heap.size ∧ wr.heap.size ≤ Y := by rw [hW11, World.size_alloc]; omega
        have hy11 : ∀ o, W11.cell? ⟨Y, o, none⟩ = (#[.int .i64 x.kind, .string x.name, .int .i64 x.n, .int .i64 x.a.kind, .int .i64 x.a.n, .string x.a.name, .slice av an an, .int .i64 x.b.kind, .int .i64 x.b.n, .string x.b.name, .slice none 0 0, .slice none 0 0, .slice none 0 0, .slice none 0 0, .int .i64 e] : Array Value)[o]? := fun o => by rw [hW11]; exact World.cell?_alloc_at _ _ _ _ hY
        have hst : StAt W11 Y 0 x (.slice av an an) (.slice none 0 0) (.slice none 0 0) (.slice none 0 0) (.slice none 0 0) := ⟨hy11 _, hy11 _, hy11 _, hy11 _, hy11 _, hy11 _, hy11 _, hy11 _, hy11 _, hy11 _, hy11 _, hy11 _, hy11 _, hy11 _⟩
        have hye : W11.cell? ⟨Y, 14, none⟩ = some (.int .i64 e) := hy11 14
        have hgx11 := (hb11.cell (p := ⟨g, j * 3 + 2, none⟩) (by show g < _; omega)).trans hgx
        have hgf11 := (hb11.frozen (p := ⟨g, j * 3 + 2, none⟩) (by show g < _; omega)).trans hgf
        have HW11 := Lib.hid (And.intro hW11 hY)
        have H11 := Lib.hid (And.intro hb11 (And.intro hst hye))
        clear hx he hav han k hrow hY hW11 hb11 hy11 hst hye hgx hgf
        go_upto_region 12 with (fail)
        rw [← HW11.out.1, ← HW11.out.2]
        have hd4 : decide ((i : Int) < 4) = true := by simp; omega
        rw [hd4]
        clear hd4 t0 t1 t2 t3 t4 t5 t6 t7 t8 t9 t10 t11 t12 t13 t14
        go_cut [] from 65 to 75 (fun wc => Oth (· = g) W11 wc ∧ (∀ q u, q ≠ j * 3 + 2 → W11.cell? ⟨g, q, none⟩ = some u → wc.cell? ⟨g, q, none⟩ = some u) ∧ wc.frozen? ⟨g, j * 3 + 2, none⟩ = false ∧ ∃ g7 c7, wc.cell? ⟨g, j * 3 + 2, none⟩ = some (.slice (some ⟨g7, 0, none⟩) (nb + 1) c7) ∧ StsIn wc (f.body ++ [x]) (.slice (some ⟨g7, 0, none⟩) (nb + 1) c7))
        case first =>
          have hst := H11.out.2.1
          refine wp_region_held (S := fun w => StAt w Y 0 x (.slice av an an) (.slice none 0 0) (.slice none 0 0) (.slice none 0 0) (.slice none 0 0)) rfl ?_
          change wpAnyH _ _ _ _ _ _ _ _ W11.drew
          obtain ⟨W12, hW12⟩ : ∃ W0, W0 = W11.drew := ⟨_, rfl⟩
          rw [← hW12]
          have hb12 : Below W11.heap.size W11 W12 := by rw [hW12]; exact (Below.refl _ _).drew
          have q12 : W11.heap.size ≤ W12.heap.size := hb12.size
          have Hb12 : Hid (StAt W12 Y 0 x (.slice av an an) (.slice none 0 0) (.slice none 0 0) (.slice none 0 0) (.slice none 0 0)) := hst.later hb12 q11.1
          have hgx12 := (hb12.cell (p := ⟨g, j * 3 + 2, none⟩) (by show g < _; omega)).trans hgx11
          have hgf12 := (hb12.frozen (p := ⟨g, j * 3 + 2, none⟩) (by show g < _; omega)).trans hgf11
          have H12 := Lib.hid hb12
          obtain ⟨va, vb2, vd, ve, vc, vk, hbody⟩ := (HO.out.fns.each j f (by rw [← Hl.out.2]; exact hjn) Hf.out.1).body.body
          have Hend : Hid (BrkEnd W12 Y g nb f x av an va vb2 vd ve vc vk (.slice abo nb cbo)) := by
            have e := HO.out.fns.each j f (by rw [← Hl.out.2]; exact hjn) Hf.out.1
            have r := HO.out.fns.rng j (by rw [← Hl.out.2]; exact hjn)
            have o := e.ord
            have k6 : ∀ k, k < w6.heap.size → k ≠ g → W12.heap[k]? = w6.heap[k]? := fun k h1 h2 => (hb12.block k (by omega)).trans ((H11.out.1.block k (by omega)).trans ((HO2.out.1.block k (by omega) h2).trans (H10.out.block k h1)))
            have kR : ∀ o, W12.cell? ⟨R, o, none⟩ = W10.cell? ⟨R, o, none⟩ := fun o => (hb12.cell (p := ⟨R, o, none⟩) (by show R < _; omega)).trans ((H11.out.1.cell (p := ⟨R, o, none⟩) (by show R < _; omega)).trans (HO2.out.1.cell (p := ⟨R, o, none⟩) (by show R < _; omega) (by show ¬ R = g; omega)))
            refine ⟨hst.later hb12 q11.1, by omega, by omega, by rw [Hx.out.1]; exact tab_lone f i, Hnb.out.symm, fun w' hs hq => ⟨?_, ?_⟩⟩
            · have h := hbody w' (by omega) fun k k1 k2 => (hq k (by omega) fun e => r.2.2 (by omega)).trans (k6 k (by omega) fun e => r.2.2 (by omega))
              rw [Hvb.out] at h
              exact h
            · have kk : ∀ o, w'.cell? ⟨R, o, none⟩ = W10.cell? ⟨R, o, none⟩ := fun o => (World.cell?_of_block (a := ⟨R, o, none⟩) (hq R (by omega) (by omega))).trans (kR o)
              rw [Hx.out.1, Hx.out.2.2.1, Hx.out.2.2.2]
              exact tab_args f ((kk _).trans Hex.out.1) ((kk _).trans Hex.out.2.1) ((kk _).trans Hex.out.2.2.1) ((kk _).trans Hex.out.2.2.2) (by omega) i hi4
          have Hbd : Hid (∀ w', Below W12.heap.size W12 w' → BodyAt w' f.body (.slice abo nb cbo) va vb2 vd ve vc vk) := fun w' h => (Hend.out.2.2.2.2.2 w' h.size fun k h1 _ => h.block k h1).1
          clear hb12 hW12 hgx11 hgf11 hst hbody
          refine wpAnyH_take (i := 0) (by simp only [List.getElem?_toArray, List.getElem?_cons_zero]; rfl) (by kernel_rfl) (by kernel_rfl) (by kernel_rfl) (by intro _ _ _ h; exact h) (Or.inl ⟨by rfl, fun w hw => by (skip; go_simp; try rfl)⟩) Hb12.out ?_
          go_frame
          refine wpAnyH_take (i := 2) (by simp only [List.getElem?_toArray, List.getElem?_cons_succ, List.getElem?_cons_zero]; rfl) (by kernel_rfl) (by kernel_rfl) (by kernel_rfl) (by intro _ _ _ h; exact h) (Or.inl ⟨by rfl, fun w hw => by (skip; go_simp; try rfl)⟩) Hb12.out ?_
          go_frame
          refine wpAnyH_take (i := 4) (by simp only [List.getElem?_toArray, List.getElem?_cons_succ, List.getElem?_cons_zero]; rfl) (by kernel_rfl) (by kernel_rfl) (by kernel_rfl) (by intro _ _ _ h; exact h) (Or.inl ⟨by rfl, fun w hw => by ((obtain ⟨i0, i1, i2, i3, i4, i5, i6, i7, i8, i9, i10, i11, i12, i13⟩ := hw; simp only [Nat.zero_add] at i0 i1 i2 i3 i4 i5 i6 i7 i8 i9 i10 i11 i12 i13); go_simp; try rfl)⟩) Hb12.out ?_
          refine wpAnyH_take (i := 5) (by simp only [List.getElem?_toArray, List.getElem?_cons_succ, List.getElem?_cons_zero]; rfl) (by kernel_rfl) (by kernel_rfl) (by kernel_rfl) (by intro _ _ _ h; exact h) (Or.inl ⟨by rfl, fun w hw => by ((obtain ⟨i0, i1, i2, i3, i4, i5, i6, i7, i8, i9, i10, i11, i12, i13⟩ := hw; simp only [Nat.zero_add] at i0 i1 i2 i3 i4 i5 i6 i7 i8 i9 i10 i11 i12 i13); go_simp; try rfl)⟩) Hb12.out ?_
          go_frame
          have HB12 : Hid (Below W12.heap.size W12 W12) := Below.refl _ _
          have q12g : g < W12.heap.size := by omega
          have hYW : Y < W12.heap.size := by omega
          have hnb5 : nb ≤ 4096 := by
            have h1 := ((Pg.good Hf.out.2.1).2 j f Hf.out.1).total
            have h2 := len_tot f.body
            have := Hnb.out
            omega
          refine wpAnyH_ready (rs := [1, 6]) (by kernel_rfl) (by simp) ?_
          refine AllReadyH.cons rfl (fun K hK => ?_) ?_
          · go_simp
            obtain ⟨Zwt1, hZ⟩ : ∃ Z, Z = W12.heap.size := ⟨_, rfl⟩
            obtain ⟨wt1, hw⟩ : ∃ w' : World, w' = W12.alloc (.cells #[] 47) := ⟨_, rfl⟩
            rw [← hZ, ← hw]
            have HBwt1 : Hid (Below W12.heap.size W12 wt1) := by rw [hw]; exact HB12.out.alloc HB12.out.size _
            have HZwt1 : Hid (wt1.ownsRow W12.heap.size 47 14 (.slice (some ⟨Zwt1, 0, none⟩) 0 0) 0 []) := by rw [hw, hZ]; exact owns_empty _ _ _ HB12.out.size
            clear hZ hw
            refine hK.out _ _ (Hb12.out.later HBwt1.out (by omega)) (fun _ => ?_)
            clear hK K
            try go_frame
            refine wpAnyH_ready (rs := [3, 6]) (by kernel_rfl) (by simp) ?_
            refine AllReadyH.cons rfl (fun K hK => ?_) ?_
            · have hbd := Hbd.out wt1 HBwt1.out
              have hsrc := hbd.slice
              have hone := hbd.one
              rw [Hnb.out] at hsrc hone
              refine append_any_wp _ _ 38 rfl Try.underlying38 Try.infoStmt rfl (by decide) W12.heap.size (.slice (some ⟨Zwt1, 0, none⟩) 0 0) 0 [] rfl HZwt1.out (.slice abo nb cbo) nb (rowsOf (stRow f.body va vb2 vd ve vc) nb) rfl hsrc hone (by unfold maxLen; omega) (by omega) HBwt1.out.size ?_
              intro v3 wt2 ho hgr hfr
              simp only [Nat.zero_add, List.nil_append] at ho
              clear hbd hsrc hone
              have HBwt2 : Hid (Below W12.heap.size W12 wt2) := HBwt1.out.grown hgr HBwt1.out.size fun k e => (World.ownsRow.lt HZwt1.out k e).1
              have HOwt2 : Hid (wt2.ownsRow W12.heap.size 47 14 v3 nb (rowsOf (stRow f.body va vb2 vd ve vc) nb)) := ho
              clear ho hgr hfr
              refine hK.out _ _ (Hb12.out.later HBwt2.out (by omega)) (fun _ => ?_)
              clear hK K
              try go_frame
              refine wpAnyH_ready (rs := [6]) (by kernel_rfl) (by simp) ?_
              refine AllReadyH.cons rfl (fun K hK => ?_) AllReadyH.nil
              go_simp
              obtain ⟨Xwt3, hX⟩ : ∃ Z, Z = wt2.heap.size := ⟨_, rfl⟩
              obtain ⟨wt3, hw⟩ : ∃ w' : World, w' = wt2.alloc (.cells #[.int .i64 x.kind, .string x.name, .int .i64 x.n, .int .i64 x.a.kind, .int .i64 x.a.n, .string x.a.name, .slice av an an, .int .i64 x.b.kind, .int .i64 x.b.n, .string x.b.name, .slice none 0 0, .slice none 0 0, .slice none 0 0, .slice none 0 0] 47) := ⟨_, rfl⟩
              rw [← hX, ← hw]
              have HBwt3 : Hid (Below W12.heap.size W12 wt3) := by rw [hw]; exact HBwt2.out.alloc HBwt2.out.size _
              have HOwt3 : Hid (wt3.ownsRow W12.heap.size 47 14 v3 nb (rowsOf (stRow f.body va vb2 vd ve vc) nb)) := by rw [hw]; exact World.ownsRow.alloc HOwt2.out _
              have HXwt3 : Hid ((∀ o u, (stVs x (.slice av an an) nilV nilV nilV nilV)[o]? = some u → wt3.cell? ⟨Xwt3, o, none⟩ = some u) ∧ Xwt3 < wt3.heap.size ∧ v3.ownBlock ≠ some Xwt3) := ⟨fun o u h => by rw [hw, World.cell?_alloc_at _ _ _ _ hX]; simpa [stVs, nilV] using h, by rw [hw, World.size_alloc]; omega, fun e => by have := (World.ownsRow.lt HOwt2.out _ e).2; omega⟩
              clear hX hw
              refine hK.out _ _ (Hb12.out.later HBwt3.out (by omega)) (fun _ => ?_)
              clear hK K
              try go_frame
              refine wpAnyH_ready (rs := [7]) (by kernel_rfl) (by simp) ?_
              refine AllReadyH.cons rfl (fun K hK => ?_) AllReadyH.nil
              have hsrc : SliceIn wt3 (.slice (some ⟨Xwt3, 0, none⟩) 1 1) 1 14 (stVs x (.slice av an an) nilV nilV nilV nilV) := ⟨rfl, _, _, rfl, Nat.le_refl _, by decide, by simp, fun _ => ⟨_, 0, rfl, HXwt3.out.2.1, fun o u h => by rw [Nat.zero_add]; exact HXwt3.out.1 o u h⟩⟩
              have hone : ∀ u ∈ stVs x (.slice av an an) nilV nilV nilV nilV, u.oneCell' = true := by intro u hu; simp [stVs, nilV] at hu; rcases hu with rfl | rfl | rfl | rfl | rfl | rfl | rfl | rfl | rfl | rfl | rfl | rfl | rfl | rfl <;> rfl
              refine append_any_wp _ _ 38 rfl Try.underlying38 Try.infoStmt rfl (by decide) W12.heap.size v3 nb (rowsOf (stRow f.body va vb2 vd ve vc) nb) rfl HOwt3.out _ 1 (stVs x (.slice av an an) nilV nilV nilV nilV) rfl hsrc hone (by unfold maxLen; omega) (by omega) HBwt3.out.size ?_
              intro v7 wt4 ho hgr hfr
              clear hsrc hone
              have HBwt4 : Hid (Below W12.heap.size W12 wt4) := HBwt3.out.grown hgr HBwt3.out.size fun k e => (World.ownsRow.lt HOwt3.out k e).1
              obtain ⟨g7, c7, rfl, hg7, hg7', hc7⟩ := row_one ho (Nat.succ_pos nb)
              have HOwt4 := Lib.hid ho
              clear ho hgr hfr
              refine hK.out _ _ (Hb12.out.later HBwt4.out (by omega)) (fun _ => ?_)
              clear hK K
              try go_frame
              refine wpAnyH_take (i := 8) (by simp only [List.getElem?_toArray, List.getElem?_cons_succ, List.getElem?_cons_zero]; rfl) (by kernel_rfl) (by kernel_rfl) (by kernel_rfl) (by intro _ _ _ h; exact h) (Or.inl ⟨by rfl, fun w hw => by (skip; go_simp; try rfl)⟩) (Hb12.out.later HBwt4.out (by omega)) ?_
              refine wpAnyH_take (i := 9) (by simp only [List.getElem?_toArray, List.getElem?_cons_succ, List.getElem?_cons_zero]; rfl) (by kernel_rfl) (by kernel_rfl) (by kernel_rfl) (by intro _ _ _ h; exact h) (Or.inl ⟨by rfl, fun w hw => by (skip; go_simp; try rfl)⟩) (Hb12.out.later HBwt4.out (by omega)) ?_
              go_frame
              refine wpAnyH_ready (rs := [10]) (by kernel_rfl) (by simp) ?_
              refine AllReadyH.cons rfl (fun K hK => ?_) AllReadyH.nil
              have gcx := (HBwt4.out.cell (p := ⟨g, j * 3 + 2, none⟩) (by show g < _; omega)).trans hgx12
              have gfx := (HBwt4.out.frozen (p := ⟨g, j * 3 + 2, none⟩) (by show g < _; omega)).trans hgf12
              go_simp
              obtain ⟨W13, hW13⟩ : ∃ w' : World, w' = wt4.setCell ⟨g, j * 3 + 2, none⟩ (.slice (some ⟨g7, 0, none⟩) (nb + 1) c7) := ⟨_, rfl⟩
              rw [← hW13]
              have HFin := Lib.hid (brk_end H12.out HBwt4.out (by omega) q12g hW13 (by rw [gcx]; rfl) gfx hg7 hg7' HOwt4.out Hend.out)
              clear gcx gfx
              refine hK.out _ _ HFin.out.1 (fun _ => ?_)
              clear hK K
              refine wpAnyH_done (by kernel_rfl) ?_ _
              (go_wp2_with fail; go_meet; case rel => exact HFin.out.2)
            refine AllReadyH.cons rfl (fun K hK => ?_) AllReadyH.nil
            go_simp
            obtain ⟨Xwt5, hX⟩ : ∃ Z, Z = wt1.heap.size := ⟨_, rfl⟩
            obtain ⟨wt5, hw⟩ : ∃ w' : World, w' = wt1.alloc (.cells #[.int .i64 x.kind, .string x.name, .int .i64 x.n, .int .i64 x.a.kind, .int .i64 x.a.n, .string x.a.name, .slice av an an, .int .i64 x.b.kind, .int .i64 x.b.n, .string x.b.name, .slice none 0 0, .slice none 0 0, .slice none 0 0, .slice none 0 0] 47) := ⟨_, rfl⟩
            rw [← hX, ← hw]
            have HBwt5 : Hid (Below W12.heap.size W12 wt5) := by rw [hw]; exact HBwt1.out.alloc HBwt1.out.size _
            have HZwt5 : Hid (wt5.ownsRow W12.heap.size 47 14 (.slice (some ⟨Zwt1, 0, none⟩) 0 0) 0 []) := by rw [hw]; exact World.ownsRow.alloc HZwt1.out _
            have HXwt5 : Hid ((∀ o u, (stVs x (.slice av an an) nilV nilV nilV nilV)[o]? = some u → wt5.cell? ⟨Xwt5, o, none⟩ = some u) ∧ Xwt5 < wt5.heap.size ∧ Xwt5 ≠ Zwt1) := ⟨fun o u h => by rw [hw, World.cell?_alloc_at _ _ _ _ hX]; simpa [stVs, nilV] using h, by rw [hw, World.size_alloc]; omega, fun e => by have := (World.ownsRow.lt HZwt1.out Zwt1 rfl).2; omega⟩
            clear hX hw
            refine hK.out _ _ (Hb12.out.later HBwt5.out (by omega)) (fun _ => ?_)
            clear hK K
            try go_frame
            refine wpAnyH_ready (rs := [3]) (by kernel_rfl) (by simp) ?_
            refine AllReadyH.cons rfl (fun K hK => ?_) AllReadyH.nil
            have hbd := Hbd.out wt5 HBwt5.out
            have hsrc := hbd.slice
            have hone := hbd.one
            rw [Hnb.out] at hsrc hone
            refine append_any_wp _ _ 38 rfl Try.underlying38 Try.infoStmt rfl (by decide) W12.heap.size (.slice (some ⟨Zwt1, 0, none⟩) 0 0) 0 [] rfl HZwt5.out (.slice abo nb cbo) nb (rowsOf (stRow f.body va vb2 vd ve vc) nb) rfl hsrc hone (by unfold maxLen; omega) (by omega) HBwt5.out.size ?_
            intro v3 wt6 ho hgr hfr
            simp only [Nat.zero_add, List.nil_append] at ho
            clear hbd hsrc hone
            have HBwt6 : Hid (Below W12.heap.size W12 wt6) := HBwt5.out.grown hgr HBwt5.out.size fun k e => (World.ownsRow.lt HZwt5.out k e).1
            have HOwt6 : Hid (wt6.ownsRow W12.heap.size 47 14 v3 nb (rowsOf (stRow f.body va vb2 vd ve vc) nb)) := ho
            have HXwt6 : Hid ((∀ o u, (stVs x (.slice av an an) nilV nilV nilV nilV)[o]? = some u → wt6.cell? ⟨Xwt5, o, none⟩ = some u) ∧ Xwt5 < wt6.heap.size ∧ v3.ownBlock ≠ some Xwt5) := ⟨fun o u h => (World.cell?_of_block (a := ⟨Xwt5, o, none⟩) (hgr.block Xwt5 HXwt5.out.2.1 (fun e => HXwt5.out.2.2 (by simpa [Value.ownBlock] using e)))).trans (HXwt5.out.1 o u h), Nat.lt_of_lt_of_le HXwt5.out.2.1 hgr.size, hfr _ HXwt5.out.2.1 (fun e => HXwt5.out.2.2 (by simpa [Value.ownBlock] using e.symm))⟩
            clear ho hgr hfr
            refine hK.out _ _ (Hb12.out.later HBwt6.out (by omega)) (fun _ => ?_)
            clear hK K
            try go_frame
            refine wpAnyH_ready (rs := [7]) (by kernel_rfl) (by simp) ?_
            refine AllReadyH.cons rfl (fun K hK => ?_) AllReadyH.nil
            have hsrc : SliceIn wt6 (.slice (some ⟨Xwt5, 0, none⟩) 1 1) 1 14 (stVs x (.slice av an an) nilV nilV nilV nilV) := ⟨rfl, _, _, rfl, Nat.le_refl _, by decide, by simp, fun _ => ⟨_, 0, rfl, HXwt6.out.2.1, fun o u h => by rw [Nat.zero_add]; exact HXwt6.out.1 o u h⟩⟩
            have hone : ∀ u ∈ stVs x (.slice av an an) nilV nilV nilV nilV, u.oneCell' = true := by intro u hu; simp [stVs, nilV] at hu; rcases hu with rfl | rfl | rfl | rfl | rfl | rfl | rfl | rfl | rfl | rfl | rfl | rfl | rfl | rfl <;> rfl
            refine append_any_wp _ _ 38 rfl Try.underlying38 Try.infoStmt rfl (by decide) W12.heap.size v3 nb (rowsOf (stRow f.body va vb2 vd ve vc) nb) rfl HOwt6.out _ 1 (stVs x (.slice av an an) nilV nilV nilV nilV) rfl hsrc hone (by unfold maxLen; omega) (by omega) HBwt6.out.size ?_
            intro v7 wt7 ho hgr hfr
            clear hsrc hone
            have HBwt7 : Hid (Below W12.heap.size W12 wt7) := HBwt6.out.grown hgr HBwt6.out.size fun k e => (World.ownsRow.lt HOwt6.out k e).1
            obtain ⟨g7, c7, rfl, hg7, hg7', hc7⟩ := row_one ho (Nat.succ_pos nb)
            have HOwt7 := Lib.hid ho
            clear ho hgr hfr
            refine hK.out _ _ (Hb12.out.later HBwt7.out (by omega)) (fun _ => ?_)
            clear hK K
            try go_frame
            refine wpAnyH_take (i := 8) (by simp only [List.getElem?_toArray, List.getElem?_cons_succ, List.getElem?_cons_zero]; rfl) (by kernel_rfl) (by kernel_rfl) (by kernel_rfl) (by intro _ _ _ h; exact h) (Or.inl ⟨by rfl, fun w hw => by (skip; go_simp; try rfl)⟩) (Hb12.out.later HBwt7.out (by omega)) ?_
            refine wpAnyH_take (i := 9) (by simp only [List.getElem?_toArray, List.getElem?_cons_succ, List.getElem?_cons_zero]; rfl) (by kernel_rfl) (by kernel_rfl) (by kernel_rfl) (by intro _ _ _ h; exact h) (Or.inl ⟨by rfl, fun w hw => by (skip; go_simp; try rfl)⟩) (Hb12.out.later HBwt7.out (by omega)) ?_
            go_frame
            refine wpAnyH_ready (rs := [10]) (by kernel_rfl) (by simp) ?_
            refine AllReadyH.cons rfl (fun K hK => ?_) AllReadyH.nil
            have gcx := (HBwt7.out.cell (p := ⟨g, j * 3 + 2, none⟩) (by show g < _; omega)).trans hgx12
            have gfx := (HBwt7.out.frozen (p := ⟨g, j * 3 + 2, none⟩) (by show g < _; omega)).trans hgf12
            go_simp
            obtain ⟨W13, hW13⟩ : ∃ w' : World, w' = wt7.setCell ⟨g, j * 3 + 2, none⟩ (.slice (some ⟨g7, 0, none⟩) (nb + 1) c7) := ⟨_, rfl⟩
            rw [← hW13]
            have HFin := Lib.hid (brk_end H12.out HBwt7.out (by omega) q12g hW13 (by rw [gcx]; rfl) gfx hg7 hg7' HOwt7.out Hend.out)
            clear gcx gfx
            refine hK.out _ _ HFin.out.1 (fun _ => ?_)
            clear hK K
            refine wpAnyH_done (by kernel_rfl) ?_ _
            (go_wp2_with fail; go_meet; case rel => exact HFin.out.2)
          refine AllReadyH.cons rfl (fun K hK => ?_) AllReadyH.nil
          go_simp
          obtain ⟨Xwt8, hX⟩ : ∃ Z, Z = W12.heap.size := ⟨_, rfl⟩
          obtain ⟨wt8, hw⟩ : ∃ w' : World, w' = W12.alloc (.cells #[.int .i64 x.kind, .string x.name, .int .i64 x.n, .int .i64 x.a.kind, .int .i64 x.a.n, .string x.a.name, .slice av an an, .int .i64 x.b.kind, .int .i64 x.b.n, .string x.b.name, .slice none 0 0, .slice none 0 0, .slice none 0 0, .slice none 0 0] 47) := ⟨_, rfl⟩
          rw [← hX, ← hw]
          have HBwt8 : Hid (Below W12.heap.size W12 wt8) := by rw [hw]; exact HB12.out.alloc HB12.out.size _
          have HXwt8 : Hid ((∀ o u, (stVs x (.slice av an an) nilV nilV nilV nilV)[o]? = some u → wt8.cell? ⟨Xwt8, o, none⟩ = some u) ∧ Xwt8 < wt8.heap.size) := ⟨fun o u h => by rw [hw, World.cell?_alloc_at _ _ _ _ hX]; simpa [stVs, nilV] using h, by rw [hw, World.size_alloc]; omega⟩
          clear hX hw
          refine hK.out _ _ (Hb12.out.later HBwt8.out (by omega)) (fun _ => ?_)
          clear hK K
          try go_frame
          refine wpAnyH_ready (rs := [1]) (by kernel_rfl) (by simp) ?_
          refine AllReadyH.cons rfl (fun K hK => ?_) AllReadyH.nil
          go_simp
          obtain ⟨Zwt9, hZ⟩ : ∃ Z, Z = wt8.heap.size := ⟨_, rfl⟩
          obtain ⟨wt9, hw⟩ : ∃ w' : World, w' = wt8.alloc (.cells #[] 47) := ⟨_, rfl⟩
          rw [← hZ, ← hw]
          have HBwt9 : Hid (Below W12.heap.size W12 wt9) := by rw [hw]; exact HBwt8.out.alloc HBwt8.out.size _
          have HZwt9 : Hid (wt9.ownsRow W12.heap.size 47 14 (.slice (some ⟨Zwt9, 0, none⟩) 0 0) 0 []) := by rw [hw, hZ]; exact owns_empty _ _ _ HBwt8.out.size
          have HXwt9 : Hid ((∀ o u, (stVs x (.slice av an an) nilV nilV nilV nilV)[o]? = some u → wt9.cell? ⟨Xwt8, o, none⟩ = some u) ∧ Xwt8 < wt9.heap.size ∧ Xwt8 ≠ Zwt9) := ⟨fun o u h => by rw [hw]; exact (((Below.refl _ _).alloc (Nat.le_refl _) _).cell (p := ⟨Xwt8, o, none⟩) HXwt8.out.2).trans (HXwt8.out.1 o u h), by rw [hw, World.size_alloc]; have := HXwt8.out.2; omega, by have := HXwt8.out.2; omega⟩
          clear hZ hw
          refine hK.out _ _ (Hb12.out.later HBwt9.out (by omega)) (fun _ => ?_)
          clear hK K
          try go_frame
          refine wpAnyH_ready (rs := [3]) (by kernel_rfl) (by simp) ?_
          refine AllReadyH.cons rfl (fun K hK => ?_) AllReadyH.nil
          have hbd := Hbd.out wt9 HBwt9.out
          have hsrc := hbd.slice
          have hone := hbd.one
          rw [Hnb.out] at hsrc hone
          refine append_any_wp _ _ 38 rfl Try.underlying38 Try.infoStmt rfl (by decide) W12.heap.size (.slice (some ⟨Zwt9, 0, none⟩) 0 0) 0 [] rfl HZwt9.out (.slice abo nb cbo) nb (rowsOf (stRow f.body va vb2 vd ve vc) nb) rfl hsrc hone (by unfold maxLen; omega) (by omega) HBwt9.out.size ?_
          intro v3 wt10 ho hgr hfr
          simp only [Nat.zero_add, List.nil_append] at ho
          clear hbd hsrc hone
          have HBwt10 : Hid (Below W12.heap.size W12 wt10) := HBwt9.out.grown hgr HBwt9.out.size fun k e => (World.ownsRow.lt HZwt9.out k e).1
          have HOwt10 : Hid (wt10.ownsRow W12.heap.size 47 14 v3 nb (rowsOf (stRow f.body va vb2 vd ve vc) nb)) := ho
          have HXwt10 : Hid ((∀ o u, (stVs x (.slice av an an) nilV nilV nilV nilV)[o]? = some u → wt10.cell? ⟨Xwt8, o, none⟩ = some u) ∧ Xwt8 < wt10.heap.size ∧ v3.ownBlock ≠ some Xwt8) := ⟨fun o u h => (World.cell?_of_block (a := ⟨Xwt8, o, none⟩) (hgr.block Xwt8 HXwt9.out.2.1 (fun e => HXwt9.out.2.2 (by simpa [Value.ownBlock] using e)))).trans (HXwt9.out.1 o u h), Nat.lt_of_lt_of_le HXwt9.out.2.1 hgr.size, hfr _ HXwt9.out.2.1 (fun e => HXwt9.out.2.2 (by simpa [Value.ownBlock] using e.symm))⟩
          clear ho hgr hfr
          refine hK.out _ _ (Hb12.out.later HBwt10.out (by omega)) (fun _ => ?_)
          clear hK K
          try go_frame
          refine wpAnyH_ready (rs := [7]) (by kernel_rfl) (by simp) ?_
          refine AllReadyH.cons rfl (fun K hK => ?_) AllReadyH.nil
          have hsrc : SliceIn wt10 (.slice (some ⟨Xwt8, 0, none⟩) 1 1) 1 14 (stVs x (.slice av an an) nilV nilV nilV nilV) := ⟨rfl, _, _, rfl, Nat.le_refl _, by decide, by simp, fun _ => ⟨_, 0, rfl, HXwt10.out.2.1, fun o u h => by rw [Nat.zero_add]; exact HXwt10.out.1 o u h⟩⟩
          have hone : ∀ u ∈ stVs x (.slice av an an) nilV nilV nilV nilV, u.oneCell' = true := by intro u hu; simp [stVs, nilV] at hu; rcases hu with rfl | rfl | rfl | rfl | rfl | rfl | rfl | rfl | rfl | rfl | rfl | rfl | rfl | rfl <;> rfl
          refine append_any_wp _ _ 38 rfl Try.underlying38 Try.infoStmt rfl (by decide) W12.heap.size v3 nb (rowsOf (stRow f.body va vb2 vd ve vc) nb) rfl HOwt10.out _ 1 (stVs x (.slice av an an) nilV nilV nilV nilV) rfl hsrc hone (by unfold maxLen; omega) (by omega) HBwt10.out.size ?_
          intro v7 wt11 ho hgr hfr
          clear hsrc hone
          have HBwt11 : Hid (Below W12.heap.size W12 wt11) := HBwt10.out.grown hgr HBwt10.out.size fun k e => (World.ownsRow.lt HOwt10.out k e).1
          obtain ⟨g7, c7, rfl, hg7, hg7', hc7⟩ := row_one ho (Nat.succ_pos nb)
          have HOwt11 := Lib.hid ho
          clear ho hgr hfr
          refine hK.out _ _ (Hb12.out.later HBwt11.out (by omega)) (fun _ => ?_)
          clear hK K
          try go_frame
          refine wpAnyH_take (i := 8) (by simp only [List.getElem?_toArray, List.getElem?_cons_succ, List.getElem?_cons_zero]; rfl) (by kernel_rfl) (by kernel_rfl) (by kernel_rfl) (by intro _ _ _ h; exact h) (Or.inl ⟨by rfl, fun w hw => by (skip; go_simp; try rfl)⟩) (Hb12.out.later HBwt11.out (by omega)) ?_
          refine wpAnyH_take (i := 9) (by simp only [List.getElem?_toArray, List.getElem?_cons_succ, List.getElem?_cons_zero]; rfl) (by kernel_rfl) (by kernel_rfl) (by kernel_rfl) (by intro _ _ _ h; exact h) (Or.inl ⟨by rfl, fun w hw => by (skip; go_simp; try rfl)⟩) (Hb12.out.later HBwt11.out (by omega)) ?_
          go_frame
          refine wpAnyH_ready (rs := [10]) (by kernel_rfl) (by simp) ?_
          refine AllReadyH.cons rfl (fun K hK => ?_) AllReadyH.nil
          have gcx := (HBwt11.out.cell (p := ⟨g, j * 3 + 2, none⟩) (by show g < _; omega)).trans hgx12
          have gfx := (HBwt11.out.frozen (p := ⟨g, j * 3 + 2, none⟩) (by show g < _; omega)).trans hgf12
          go_simp
          obtain ⟨W13, hW13⟩ : ∃ w' : World, w' = wt11.setCell ⟨g, j * 3 + 2, none⟩ (.slice (some ⟨g7, 0, none⟩) (nb + 1) c7) := ⟨_, rfl⟩
          rw [← hW13]
          have HFin := Lib.hid (brk_end H12.out HBwt11.out (by omega) q12g hW13 (by rw [gcx]; rfl) gfx hg7 hg7' HOwt11.out Hend.out)
          clear gcx gfx
          refine hK.out _ _ HFin.out.1 (fun _ => ?_)
          clear hK K
          refine wpAnyH_done (by kernel_rfl) ?_ _
          (go_wp2_with fail; go_meet; case rel => exact HFin.out.2)
        case rest =>
          obtain ⟨hOc, hGc, hfc, g7, c7, hc7, hst7⟩ := hcut
          have qc := hOc.size
          have hq := HO.out.turned Hf.out.1 (w' := wc) ⟨by omega, fun k h1 h2 h3 => (hOc.block k (by omega) h3).trans ((H11.out.1.block k (by omega)).trans ((HO2.out.1.block k (by omega) h3).trans (H10.out.block k h2))), fun q u h1 h2 => hGc q u h1 ((H11.out.1.cell (p := ⟨g, q, none⟩) (by show g < _; omega)).trans (HO2.out.2 q u h1 ((H10.out.cell (p := ⟨g, q, none⟩) hgl.2).trans h2)))⟩ hc7 hst7
          rw [← Hl.out.1, ← Hl.out.2] at hq
          have HQ := Lib.hid hq
          have kk : ∀ b o, b < W10.heap.size → b ≠ g → wc.cell? ⟨b, o, none⟩ = W10.cell? ⟨b, o, none⟩ := fun b o h1 h2 => (hOc.cell (p := ⟨b, o, none⟩) (by show b < _; omega) h2).trans ((H11.out.1.cell (p := ⟨b, o, none⟩) (by show b < _; omega)).trans (HO2.out.1.cell (p := ⟨b, o, none⟩) h1 h2))
          have c0 := (kk B 0 (by omega) (by omega)).trans Hcs.out.1.1
          have c1 := (kk B 1 (by omega) (by omega)).trans Hcs.out.1.2.1
          have d0 := (kk C 0 (by omega) (by omega)).trans Hcs.out.1.2.2.1
          have d1 := (kk C 1 (by omega) (by omega)).trans Hcs.out.1.2.2.2
          have hye := (hOc.cell (p := ⟨Y, 14, none⟩) (by show Y < _; omega) (by show ¬ Y = g; omega)).trans H11.out.2.2
          have hWc : Below W.heap.size W wc := by
            have h10 := H6.out.2.trans (H10.out.mono H6.out.2.size)
            have hg' : ∀ k, k = g → W.heap.size ≤ k := fun k e => by have := H3.out.1.size; omega
            have hr := h10.trans (HO2.out.1.below h10.size hg')
            have h11 := hr.trans (H11.out.1.mono hr.size)
            exact h11.trans (hOc.below h11.size hg')
          have HWc := Lib.hid hWc
          have HR : Hid (∀ w', Below wc.heap.size wc w' → Oth (· = g) W10 w' ∧ (∀ q u, q ≠ j * 3 + 2 → W10.cell? ⟨g, q, none⟩ = some u → w'.cell? ⟨g, q, none⟩ = some u) ∧ (∃ ax nx cx, w'.cell? ⟨g, j * 3 + 2, none⟩ = some (.slice ax nx cx)) ∧ w'.frozen? ⟨g, j * 3 + 2, none⟩ = false) := fun w' hb =>
            ⟨HO2.out.1.trans ((Oth.of_below H11.out.1).trans (hOc.trans (Oth.of_below hb))), fun q u h1 h2 => (hb.cell (p := ⟨g, q, none⟩) (by show g < _; omega)).trans (hGc q u h1 ((H11.out.1.cell (p := ⟨g, q, none⟩) (by show g < _; omega)).trans (HO2.out.2 q u h1 h2))), ⟨_, _, _, (hb.cell (p := ⟨g, _, none⟩) (by show g < _; omega)).trans hc7⟩, (hb.frozen (p := ⟨g, _, none⟩) (by show g < _; omega)).trans hfc⟩
          clear hOc hGc hfc hc7 hst7 hq kk hWc
          go_wp2_with fail
          refine (ncheck_any _ _ _ _ _ wc HQ.out).mono ?_
          rintro e13 w13 ⟨rfl, hb13⟩
          obtain ⟨t, ht⟩ : ∃ t, t = (p.withBody j (f.body ++ [x])).nfault := ⟨_, rfl⟩
          rw [← ht]
          have Ht2 := Lib.hid ht
          obtain ⟨na, nf, nn⟩ := t
          unfold fltV
          have q13 := hb13.size
          obtain ⟨F, hF⟩ : ∃ F, F = w13.heap.size := ⟨_, rfl⟩
          obtain ⟨W14, hW14⟩ : ∃ W4, W4 = w13.alloc (.cells #[.int .i64 na, .int .i64 nf, .int .i64 nn] 29) := ⟨_, rfl⟩
          have hb14 : Below w13.heap.size w13 W14 := by rw [hW14]; exact (Below.refl _ _).alloc (Nat.le_refl _) _
          have f0 : W14.cell? ⟨F, 0, none⟩ = some (.int .i64 na) := by rw [hW14, hF]; exact World.cell?_alloc_at _ _ _ _ rfl
          have f1 : W14.cell? ⟨F, 1, none⟩ = some (.int .i64 nf) := by rw [hW14, hF]; exact World.cell?_alloc_at _ _ _ _ rfl
          have f2 : W14.cell? ⟨F, 2, none⟩ = some (.int .i64 nn) := by rw [hW14, hF]; exact World.cell?_alloc_at _ _ _ _ rfl
          have q14 : F < W14.heap.size ∧ w13.heap.size ≤ W14.heap.size := by rw [hW14, hF]; simp
          have hb4 : Below wc.heap.size wc W14 := hb13.trans (hb14.mono hb13.size)
          rw [← hb4.cell (p := ⟨B, _, none⟩) (by show B < _; omega)] at c0 c1
          rw [← hb4.cell (p := ⟨C, _, none⟩) (by show C < _; omega)] at d0 d1
          rw [← hb4.cell (p := ⟨Y, _, none⟩) (by show Y < _; omega)] at hye
          have HW14 := Lib.hid (And.intro hW14 hF)
          have H14 := Lib.hid hb4
          clear ht hb13 hb14 hb4 hW14 hF
          go_upto_region 14 with (fail)
          rw [← HW14.out.1, ← HW14.out.2]
          go_wp2_with fail
          refine (check_any _ _ _ _ _ W14 (HQ.out.later H14.out)).mono ?_
          rintro e15 w15 ⟨rfl, hb15⟩
          obtain ⟨u, hu⟩ : ∃ u, u = (p.withBody j (f.body ++ [x])).fault := ⟨_, rfl⟩
          rw [← hu]
          have Hu := Lib.hid hu
          obtain ⟨xa, xb, xc⟩ := u
          unfold fltV
          have q15 := hb15.size
          rw [← hb15.cell (p := ⟨B, _, none⟩) (by show B < _; omega)] at c0 c1
          rw [← hb15.cell (p := ⟨C, _, none⟩) (by show C < _; omega)] at d0 d1
          rw [← hb15.cell (p := ⟨Y, _, none⟩) (by show Y < _; omega)] at hye
          rw [← hb15.cell (p := ⟨F, _, none⟩) q14.1] at f0 f1 f2
          have H15 : Hid (Below wc.heap.size wc w15) := H14.out.trans (hb15.mono H14.out.size)
          have HW15 : Hid (Below W.heap.size W w15) := HWc.out.trans (H15.out.mono HWc.out.size)
          clear hu hb15
          by_cases hx3 : xa = 3
          · subst hx3
            go_wp2_with fail
            go_ret
            exact ⟨by rfl, HW15.out⟩
          · have hx3b : (xa == 3) = false := by simpa using hx3
            have hw := wrong_law Hf.out.1 (x := x) (e := e) (by rw [Hx.out.1, Hx.out.2.1]; exact tab_wrong Hf.out.1 Hf.out.2.1 Hf.out.2.2 i) Hf.out.2.1 Hf.out.2.2 (by rw [← Hu.out]; exact hx3)
            by_cases heq : na = e ∧ nf = (j : Int) ∧ nn = (N : Int) + 1
            · obtain ⟨rfl, rfl, rfl⟩ := heq
              have hne := neq_flt
              clear hw hx3
              go_wp2_with fail
              go_roundg (4 - (i + 1))
              case measure => have := Hg.out; omega
              case rel => exact ⟨i + 1, rfl, by go_num, by omega, (HR.out _ H15.out).1, (HR.out _ H15.out).2.1, (HR.out _ H15.out).2.2.1, (HR.out _ H15.out).2.2.2⟩
            · have hkb : knownB f nobodyN = true := by
                rcases hw with h | h
                · rw [← Ht2.out, ← HN.out] at h
                  simp only [Prod.mk.injEq] at h
                  exact absurd h heq
                · exact h
              have hne := neq_flt2 heq
              obtain ⟨a', cap', he1, _, _, _, h5⟩ := HP.out.funcs.row
              injection he1 with e1 e2 e3
              obtain ⟨b0, o0, e5, hb0, hrow⟩ := h5 (by omega)
              rw [← e1] at e5
              subst e5
              obtain ⟨r0, r1, r2⟩ := hrow j (by omega) f Hf.out.1
              obtain ⟨apj, cpj, evp, -⟩ := (HP.out.funcs.params j f Hf.out.1).form
              obtain ⟨abj, cbj, evb, -⟩ := (HP.out.funcs.body j f Hf.out.1).form
              rw [evp] at r1
              rw [evb] at r2
              rw [← HW15.out.cell (p := ⟨b0, _, none⟩) hb0] at r0 r1 r2
              have Hvp := Lib.hid (And.intro evp evb)
              clear h5 e1 e2 e3 hrow evp evb hw hx3
              go_wp2_with fail
              refine (known_any f nobodyN (.slice apj f.params.length cpj) (.slice abj f.body.length cbj) W (by rw [← Hvp.out.1]; exact HP.out.funcs.params j f Hf.out.1) (by rw [← Hvp.out.2]; exact HP.out.funcs.body j f Hf.out.1) w15 HW15.out).mono ?_
              rintro ek w16 ⟨rfl, hb16⟩
              rw [hkb]
              have H16 : Hid (Below wc.heap.size wc w16) := H15.out.trans (hb16.mono H15.out.size)
              clear hb16
              go_wp2_with fail
              go_roundg (4 - (i + 1))
              case measure => have := Hg.out; omega
              case rel => exact ⟨i + 1, rfl, by go_num, by omega, (HR.out _ H16.out).1, (HR.out _ H16.out).2.1, (HR.out _ H16.out).2.2.1, (HR.out _ H16.out).2.2.2⟩
      · have hd4 : decide ((i : Int) < 4) = false := by simp; omega
        have hWr : Below W.heap.size W wr := by
          have h10 := H6.out.2.trans (H10.out.mono H6.out.2.size)
          exact h10.trans (HO2.out.1.below h10.size fun k e => by have := H3.out.1.size; omega)
        have HWr := Lib.hid hWr
        clear hWr
        by_cases hj0 : j = 0
        · have hjb : ((j : Int) == 0) = true := by simp; omega
          go_wp2_with fail
          go_ret
          exact ⟨by rfl, HWr.out⟩
        · have hjb : ((j : Int) == 0) = false := by simp; omega
          obtain ⟨f0, hf0⟩ : ∃ f0, p.funcs[0]? = some f0 := ⟨_, List.getElem?_eq_getElem (by rw [← Hl.out.2]; omega)⟩
          have Hf0 := Lib.hid hf0
          obtain ⟨a', cap', he1, _, _, _, h5⟩ := HP.out.funcs.row
          injection he1 with e1 e2 e3
          obtain ⟨b0, o0, e5, hb0, hrow⟩ := h5 (by omega)
          rw [← e1] at e5
          subst e5
          have r0 := (hrow 0 (by omega) f0 hf0).1
          rw [Nat.zero_mul, Nat.add_zero] at r0
          rw [← HWr.out.cell (p := ⟨b0, _, none⟩) hb0] at r0
          have kk : ∀ b o, b < W10.heap.size → b ≠ g → wr.cell? ⟨b, o, none⟩ = W10.cell? ⟨b, o, none⟩ := fun b o h1 h2 => HO2.out.1.cell (p := ⟨b, o, none⟩) h1 h2
          have c1 := (kk B 1 (by omega) (by omega)).trans Hcs.out.1.2.1
          have d0 := (kk C 0 (by omega) (by omega)).trans Hcs.out.1.2.2.1
          have d1 := (kk C 1 (by omega) (by omega)).trans Hcs.out.1.2.2.2
          clear hf0 h5 e1 e2 e3 hrow kk
          go_upto_region 21 with (fail)
          refine wp_region_held (S := fun w => w.cell? ⟨B, 1, none⟩ = some (.slice (some ⟨b0, o0, none⟩) n cap) ∧ w.cell? ⟨b0, o0, none⟩ = some (.string f0.name)) rfl ?_
          change wpAnyH _ _ _ _ _ _ _ _ wr.drew
          obtain ⟨W12, hW12⟩ : ∃ W0, W0 = wr.drew := ⟨_, rfl⟩
          rw [← hW12]
          have hb12 : Below wr.heap.size wr W12 := by rw [hW12]; exact (Below.refl _ _).drew
          have q12 : wr.heap.size ≤ W12.heap.size := hb12.size
          have hgb : W.heap.size ≤ g ∧ B < g ∧ C ≠ g := by have := H3.out.1.size; omega
          have HS : Hid (∀ w' : World, (∀ k, k < wr.heap.size → k ≠ g → w'.heap[k]? = W12.heap[k]?) → w'.cell? ⟨B, 1, none⟩ = some (.slice (some ⟨b0, o0, none⟩) n cap) ∧ w'.cell? ⟨b0, o0, none⟩ = some (.string f0.name)) := fun w' h =>
            ⟨((World.cell?_of_block (a := ⟨B, 1, none⟩) (h B (by omega) (by omega))).trans (hb12.cell (p := ⟨B, 1, none⟩) (by show B < _; omega))).trans c1, ((World.cell?_of_block (a := ⟨b0, o0, none⟩) (h b0 (by omega) (by omega))).trans (hb12.cell (p := ⟨b0, o0, none⟩) (by show b0 < _; omega))).trans r0⟩
          have HS12 : Hid (∀ w' : World, Below W12.heap.size W12 w' → w'.cell? ⟨B, 1, none⟩ = some (.slice (some ⟨b0, o0, none⟩) n cap) ∧ w'.cell? ⟨b0, o0, none⟩ = some (.string f0.name)) := fun w' hb => HS.out w' fun k h1 _ => hb.block k (by omega)
          rw [← hb12.cell (p := ⟨C, _, none⟩) (by show C < _; omega)] at d0 d1
          have hgx12 := (hb12.cell (p := ⟨g, j * 3 + 2, none⟩) (by show g < _; omega)).trans hgx
          have hgf12 := (hb12.frozen (p := ⟨g, j * 3 + 2, none⟩) (by show g < _; omega)).trans hgf
          have H12 := Lib.hid hb12
          obtain ⟨va, vb2, vd, ve, vc, vk, hbody⟩ := (HO.out.fns.each j f (by rw [← Hl.out.2]; exact hjn) Hf.out.1).body.body
          have Hend : Hid (∀ w' : World, W12.heap.size ≤ w'.heap.size → (∀ k, k < W12.heap.size → k ≠ g → w'.heap[k]? = W12.heap[k]?) → BodyAt w' f.body (.slice abo nb cbo) va vb2 vd ve vc vk ∧ ExsIn w' (callSt f0.name).a.args nilV) := fun w' hs hq => by
            have e := HO.out.fns.each j f (by rw [← Hl.out.2]; exact hjn) Hf.out.1
            have r := HO.out.fns.rng j (by rw [← Hl.out.2]; exact hjn)
            have o := e.ord
            have k6 : ∀ k, k < w6.heap.size → k ≠ g → W12.heap[k]? = w6.heap[k]? := fun k h1 h2 => (H12.out.block k (by omega)).trans ((HO2.out.1.block k (by omega) h2).trans (H10.out.block k h1))
            have h := hbody w' (by omega) fun k k1 k2 => (hq k (by omega) fun e => r.2.2 (by omega)).trans (k6 k (by omega) fun e => r.2.2 (by omega))
            rw [Hvb.out] at h
            exact ⟨h, exsIn_nil w'⟩
          have HB12 : Hid (Below W12.heap.size W12 W12) := Below.refl _ _
          have q12g : g < W12.heap.size := by omega
          have hnb5 : nb ≤ 4096 := by
            have h1 := ((Pg.good Hf.out.2.1).2 j f Hf.out.1).total
            have h2 := len_tot f.body
            have := Hnb.out
            omega
          have hn0 : 0 < n := by omega
          clear hb12 hW12 hgx hgf hbody c1 r0
          refine wpAnyH_take (i := 0) (by simp only [List.getElem?_toArray, List.getElem?_cons_zero]; rfl) (by kernel_rfl) (by kernel_rfl) (by kernel_rfl) (by intro _ _ _ h; exact h) (Or.inl ⟨by rfl, fun w hw => by (skip; go_simp; try rfl)⟩) (HS12.out _ HB12.out) ?_
          go_frame
          refine wpAnyH_take (i := 2) (by simp only [List.getElem?_toArray, List.getElem?_cons_succ, List.getElem?_cons_zero]; rfl) (by kernel_rfl) (by kernel_rfl) (by kernel_rfl) (by intro _ _ _ h; exact h) (Or.inl ⟨by rfl, fun w hw => by (skip; go_simp; try rfl)⟩) (HS12.out _ HB12.out) ?_
          go_frame
          refine wpAnyH_take (i := 4) (by simp only [List.getElem?_toArray, List.getElem?_cons_succ, List.getElem?_cons_zero]; rfl) (by kernel_rfl) (by kernel_rfl) (by kernel_rfl) (by intro _ _ _ h; exact h) (Or.inl ⟨by rfl, fun w hw => by ((obtain ⟨k1, k2⟩ := hw); go_simp; try rfl)⟩) (HS12.out _ HB12.out) ?_
          refine wpAnyH_take (i := 5) (by simp only [List.getElem?_toArray, List.getElem?_cons_succ, List.getElem?_cons_zero]; rfl) (by kernel_rfl) (by kernel_rfl) (by kernel_rfl) (by intro _ _ _ h; exact h) (Or.inl ⟨by rfl, fun w hw => by ((obtain ⟨k1, k2⟩ := hw); go_simp; try rfl)⟩) (HS12.out _ HB12.out) ?_
          go_frame
          refine wpAnyH_take (i := 6) (by simp only [List.getElem?_toArray, List.getElem?_cons_succ, List.getElem?_cons_zero]; rfl) (by kernel_rfl) (by kernel_rfl) (by kernel_rfl) (by intro _ _ _ h; exact h) (Or.inl ⟨by rfl, fun w hw => by ((obtain ⟨k1, k2⟩ := hw); go_simp; try rfl)⟩) (HS12.out _ HB12.out) ?_
          refine wpAnyH_take (i := 7) (by simp only [List.getElem?_toArray, List.getElem?_cons_succ, List.getElem?_cons_zero]; rfl) (by kernel_rfl) (by kernel_rfl) (by kernel_rfl) (by intro _ _ _ h; exact h) (Or.inl ⟨by rfl, fun w hw => by ((obtain ⟨k1, k2⟩ := hw); go_simp; try rfl)⟩) (HS12.out _ HB12.out) ?_
          go_frame
          refine wpAnyH_take (i := 8) (by simp only [List.getElem?_toArray, List.getElem?_cons_succ, List.getElem?_cons_zero]; rfl) (by kernel_rfl) (by kernel_rfl) (by kernel_rfl) (by intro _ _ _ h; exact h) (Or.inl ⟨by rfl, fun w hw => by ((obtain ⟨k1, k2⟩ := hw); go_simp; try rfl)⟩) (HS12.out _ HB12.out) ?_
          go_frame
          refine wpAnyH_ready (rs := [1]) (by kernel_rfl) (by simp) ?_
          refine AllReadyH.cons rfl (fun K hK => ?_) AllReadyH.nil
          go_simp
          obtain ⟨Z1, hZ⟩ : ∃ Z, Z = W12.heap.size := ⟨_, rfl⟩
          obtain ⟨wt1, hw⟩ : ∃ w' : World, w' = W12.alloc (.cells #[] 47) := ⟨_, rfl⟩
          rw [← hZ, ← hw]
          have HB1 : Hid (Below W12.heap.size W12 wt1) := by rw [hw]; exact HB12.out.alloc HB12.out.size _
          have HZ1 : Hid (wt1.ownsRow W12.heap.size 47 14 (.slice (some ⟨Z1, 0, none⟩) 0 0) 0 []) := by rw [hw, hZ]; exact owns_empty _ _ _ HB12.out.size
          clear hZ hw
          refine hK.out _ _ (HS12.out _ HB1.out) (fun _ => ?_)
          clear hK K
          try go_frame
          refine wpAnyH_ready (rs := [3]) (by kernel_rfl) (by simp) ?_
          refine AllReadyH.cons rfl (fun K hK => ?_) AllReadyH.nil
          have hbd := (Hend.out wt1 HB1.out.size fun k h1 _ => HB1.out.block k h1).1
          have hsrc := hbd.slice
          have hone := hbd.one
          rw [Hnb.out] at hsrc hone
          refine append_any_wp _ _ 38 rfl Try.underlying38 Try.infoStmt rfl (by decide) W12.heap.size (.slice (some ⟨Z1, 0, none⟩) 0 0) 0 [] rfl HZ1.out (.slice abo nb cbo) nb (rowsOf (stRow f.body va vb2 vd ve vc) nb) rfl hsrc hone (by unfold maxLen; omega) (by omega) HB1.out.size ?_
          intro v3 wt2 ho hgr hfr
          simp only [Nat.zero_add, List.nil_append] at ho
          clear hbd hsrc hone
          have HB2 : Hid (Below W12.heap.size W12 wt2) := HB1.out.grown hgr HB1.out.size fun k e => (World.ownsRow.lt HZ1.out k e).1
          have HO2' : Hid (wt2.ownsRow W12.heap.size 47 14 v3 nb (rowsOf (stRow f.body va vb2 vd ve vc) nb)) := ho
          clear ho hgr hfr
          refine hK.out _ _ (HS12.out _ HB2.out) (fun _ => ?_)
          clear hK K
          try go_frame
          refine wpAnyH_ready (rs := [9]) (by kernel_rfl) (by simp) ?_
          refine AllReadyH.cons rfl (fun K hK => ?_) AllReadyH.nil
          go_simp
          refine (call_any f0.name wt2).mono ?_
          rintro ec wt3 ⟨rfl, hb3'⟩
          unfold callVs nilV
          have HB3 : Hid (Below W12.heap.size W12 wt3) := HB2.out.trans (hb3'.mono HB2.out.size)
          have HO3' : Hid (wt3.ownsRow W12.heap.size 47 14 v3 nb (rowsOf (stRow f.body va vb2 vd ve vc) nb)) := ownsRow_below HO2'.out hb3' (Nat.le_refl _)
          clear hb3'
          refine hK.out _ _ (HS12.out _ HB3.out) (fun _ => ?_)
          clear hK K
          try go_frame
          refine wpAnyH_ready (rs := [10]) (by kernel_rfl) (by simp) ?_
          refine AllReadyH.cons rfl (fun K hK => ?_) AllReadyH.nil
          go_simp
          obtain ⟨X4, hX⟩ : ∃ Z, Z = wt3.heap.size := ⟨_, rfl⟩
          obtain ⟨wt4, hw⟩ : ∃ w' : World, w' = wt3.alloc (.cells #[.int .i64 10, .string ⟨#[]⟩, .int .i64 0, .int .i64 4, .int .i64 0, .string f0.name, .slice none 0 0, .int .i64 0, .int .i64 0, .string ⟨#[]⟩, .slice none 0 0, .slice none 0 0, .slice none 0 0, .slice none 0 0] 47) := ⟨_, rfl⟩
          rw [← hX, ← hw]
          have HB4 : Hid (Below W12.heap.size W12 wt4) := by rw [hw]; exact HB3.out.alloc HB3.out.size _
          have HO4' : Hid (wt4.ownsRow W12.heap.size 47 14 v3 nb (rowsOf (stRow f.body va vb2 vd ve vc) nb)) := by rw [hw]; exact World.ownsRow.alloc HO3'.out _
          have HX4 : Hid ((∀ o u, (stVs (callSt f0.name) nilV nilV nilV nilV nilV)[o]? = some u → wt4.cell? ⟨X4, o, none⟩ = some u) ∧ X4 < wt4.heap.size) := ⟨fun o u h => by
            have e : (#[.int .i64 10, .string ⟨#[]⟩, .int .i64 0, .int .i64 4, .int .i64 0, .string f0.name, .slice none 0 0, .int .i64 0, .int .i64 0, .string ⟨#[]⟩, .slice none 0 0, .slice none 0 0, .slice none 0 0, .slice none 0 0] : Array Value) = (stVs (callSt f0.name) nilV nilV nilV nilV nilV).toArray := rfl
            rw [hw, World.cell?_alloc_at _ _ _ _ hX, e, List.getElem?_toArray]
            exact h, by rw [hw, World.size_alloc]; omega⟩
          clear hX hw
          refine hK.out _ _ (HS12.out _ HB4.out) (fun _ => ?_)
          clear hK K
          try go_frame
          refine wpAnyH_ready (rs := [11]) (by kernel_rfl) (by simp) ?_
          refine AllReadyH.cons rfl (fun K hK => ?_) AllReadyH.nil
          have hsrc : SliceIn wt4 (.slice (some ⟨X4, 0, none⟩) 1 1) 1 14 (stVs (callSt f0.name) nilV nilV nilV nilV nilV) := ⟨rfl, _, _, rfl, Nat.le_refl _, by decide, by simp, fun _ => ⟨_, 0, rfl, HX4.out.2, fun o u h => by rw [Nat.zero_add]; exact HX4.out.1 o u h⟩⟩
          have hone : ∀ u ∈ stVs (callSt f0.name) nilV nilV nilV nilV nilV, u.oneCell' = true := fun u hu => List.all_eq_true.1 (show (stVs (callSt f0.name) nilV nilV nilV nilV nilV).all Value.oneCell' = true from rfl) u hu
          refine append_any_wp _ _ 38 rfl Try.underlying38 Try.infoStmt rfl (by decide) W12.heap.size v3 nb (rowsOf (stRow f.body va vb2 vd ve vc) nb) rfl HO4'.out (.slice (some ⟨X4, 0, none⟩) 1 1) 1 (stVs (callSt f0.name) nilV nilV nilV nilV nilV) rfl hsrc hone (by unfold maxLen; omega) (by omega) HB4.out.size ?_
          intro v7 wt5 ho hgr hfr
          clear hsrc hone
          have HB5 : Hid (Below W12.heap.size W12 wt5) := HB4.out.grown hgr HB4.out.size fun k e => (World.ownsRow.lt HO4'.out k e).1
          obtain ⟨g7, c7, rfl, hg7, hg7', hc7⟩ := row_one ho (Nat.succ_pos nb)
          have HO5' := Lib.hid ho
          clear ho hgr hfr
          refine hK.out _ _ (HS12.out _ HB5.out) (fun _ => ?_)
          clear hK K
          try go_frame
          refine wpAnyH_take (i := 12) (by simp only [List.getElem?_toArray, List.getElem?_cons_succ, List.getElem?_cons_zero]; rfl) (by kernel_rfl) (by kernel_rfl) (by kernel_rfl) (by intro _ _ _ h; exact h) (Or.inl ⟨by rfl, fun w hw => by (skip; go_simp; try rfl)⟩) (HS12.out _ HB5.out) ?_
          refine wpAnyH_take (i := 13) (by simp only [List.getElem?_toArray, List.getElem?_cons_succ, List.getElem?_cons_zero]; rfl) (by kernel_rfl) (by kernel_rfl) (by kernel_rfl) (by intro _ _ _ h; exact h) (Or.inl ⟨by rfl, fun w hw => by (skip; go_simp; try rfl)⟩) (HS12.out _ HB5.out) ?_
          go_frame
          refine wpAnyH_ready (rs := [14]) (by kernel_rfl) (by simp) ?_
          refine AllReadyH.cons rfl (fun K hK => ?_) AllReadyH.nil
          have gcx := (HB5.out.cell (p := ⟨g, j * 3 + 2, none⟩) (by show g < _; omega)).trans hgx12
          have gfx := (HB5.out.frozen (p := ⟨g, j * 3 + 2, none⟩) (by show g < _; omega)).trans hgf12
          go_simp
          obtain ⟨W13, hW13⟩ : ∃ w' : World, w' = wt5.setCell ⟨g, j * 3 + 2, none⟩ (.slice (some ⟨g7, 0, none⟩) (nb + 1) c7) := ⟨_, rfl⟩
          rw [← hW13]
          have HFin := Lib.hid (brk_end2 HB5.out q12g hW13 (by rw [gcx]; rfl) hg7 hg7' HO5'.out ⟨rfl, rfl, rfl, rfl⟩ Hnb.out.symm Hend.out)
          clear gcx gfx hW13
          refine hK.out _ _ (HS.out _ fun k h1 h2 => HFin.out.1.block k (by omega) h2) (fun _ => ?_)
          clear hK K
          refine wpAnyH_done (by kernel_rfl) ?_ _
          have qf := HFin.out.1.size
          have h13 : Below W.heap.size W W13 := by
            have h := HWr.out.trans (H12.out.mono HWr.out.size)
            exact h.trans (HFin.out.1.below h.size fun k e => by omega)
          have hq := HO.out.turned Hf.out.1 (w' := W13) ⟨by omega, fun k h1 h2 h3 => (HFin.out.1.block k (by omega) h3).trans ((H12.out.block k (by omega)).trans ((HO2.out.1.block k (by omega) h3).trans (H10.out.block k h2))), fun q u h1 h2 => HFin.out.2.1 q u h1 ((H12.out.cell (p := ⟨g, q, none⟩) (by show g < _; omega)).trans (HO2.out.2 q u h1 ((H10.out.cell (p := ⟨g, q, none⟩) hgl.2).trans h2)))⟩ HFin.out.2.2.1 HFin.out.2.2.2
          rw [← Hl.out.1, ← Hl.out.2] at hq
          have HQ := Lib.hid hq
          have HW13 := Lib.hid h13
          rw [← HFin.out.1.cell (p := ⟨C, _, none⟩) (by show C < _; omega) (by show ¬ C = g; omega)] at d0 d1
          clear h13 hq HS HS12 Hend hgx12 hgf12
          go_wp2_with fail
          refine (ncalls_any _ _ _ _ _ (j : Int) W13 HQ.out).mono ?_
          rintro e14 w14 ⟨v14, rfl, ho14, hb14⟩
          obtain ⟨l, hl⟩ : ∃ l, l = (p.withBody j (f.body ++ [callSt f0.name])).ncalls (j : Int) := ⟨_, rfl⟩
          rw [← hl] at ho14
          have hin : IntsIn w14 v14 l := SliceIn.of_owns ho14
          have Hll := Lib.hid hl
          obtain ⟨L, hL⟩ : ∃ L, L = l.length := ⟨_, rfl⟩
          have hin2 := hin
          obtain ⟨_, al, cl, hv, _, _, _, _⟩ := hin2
          subst hv
          rw [← hL] at hin ⊢
          have Hin := Lib.hid (And.intro hin hL)
          have H14 : Hid (Below W13.heap.size W13 w14) := hb14
          have q14 := hb14.size
          rw [← hb14.cell (p := ⟨C, _, none⟩) (by show C < _; omega)] at d0 d1
          clear ho14 hl hin hL hb14
          go_wp2_with fail
          refine (check_any _ _ _ _ _ w14 (HQ.out.later H14.out)).mono ?_
          rintro e15 w15 ⟨rfl, hb15⟩
          obtain ⟨u, hu⟩ : ∃ u, u = (p.withBody j (f.body ++ [callSt f0.name])).fault := ⟨_, rfl⟩
          rw [← hu]
          have Hu := Lib.hid hu
          obtain ⟨xa, xb, xc⟩ := u
          unfold fltV
          have H15 : Hid (Below W13.heap.size W13 w15) := H14.out.trans (hb15.mono H14.out.size)
          have HW15 : Hid (Below W.heap.size W w15) := HW13.out.trans (H15.out.mono HW13.out.size)
          have q15 := hb15.size
          rw [← hb15.cell (p := ⟨C, _, none⟩) (by show C < _; omega)] at d0 d1
          by_cases hx : xa = 0
          · subst hx
            obtain ⟨hnf, l', hl'⟩ := call_law Hf.out.1 Hf0.out (by omega : 0 < j) Hf.out.2.1 Hf.out.2.2 (by rw [← Hu.out])
            have el : l = 0 :: l' := by rw [Hll.out]; exact hl'
            obtain ⟨bl, ol, e6, hbl, hcl⟩ := intsIn_at Hin.out.1 (i := 0) (x := 0) (by rw [el]; rfl)
            have hL0 : 0 < L := by rw [Hin.out.2, el]; simp
            have hLd : decide (0 < (L : Int)) = true := by simp; omega
            subst e6
            rw [Nat.add_zero, ← hb15.cell (p := ⟨bl, _, none⟩) hbl] at hcl
            have hbl15 : bl < w15.heap.size := by omega
            clear hu hb15 hl' el
            go_wp2_with fail
            refine (ncheck_any _ _ _ _ _ w15 (HQ.out.later H15.out)).mono ?_
            rintro e16 w16 ⟨rfl, hb16⟩
            rw [hnf]
            unfold fltV
            rw [← hb16.cell (p := ⟨bl, _, none⟩) hbl15] at hcl
            have HW16 : Hid (Below W.heap.size W w16) := HW15.out.trans (hb16.mono HW15.out.size)
            have heq := eql_flt
            clear hb16 hnf
            go_wp2_with fail
            go_ret
            exact ⟨by rfl, HW16.out⟩
          · have hxb : (xa != 0) = true := by simpa using hx
            clear hu hb15
            go_wp2_with fail
            go_ret
            exact ⟨by rfl, HW15.out⟩
  · by_cases he : ea = 0
    · subst he
      have hd : decide (k < 0) = true ∨ (decide (k < 0) = false ∧ decide ((n : Int) ≤ k) = true) := by
        by_cases h0 : k < 0
        · exact .inl (by simpa using h0)
        · refine .inr ⟨by simpa using h0, ?_⟩
          have : ¬ k < n := fun h => hin ⟨rfl, by omega, h⟩
          simp; omega
      rcases hd with hd1 | ⟨hd1, hd2⟩
      · go_wp2_with fail
        go_ret
        exact ⟨by rfl, H3.out.1⟩
      · go_wp2_with fail
        go_ret
        exact ⟨by rfl, H3.out.1⟩
    · have heb : (ea != 0) = true := by simpa using he
      go_wp2_with fail
      go_ret
      exact ⟨by rfl, H3.out.1⟩
end Go.Proofs.Ytneibcpgengdnaa

namespace Go.Proofs.Ytneibcpgengdnaa
open Go.Joins Go.ChangeShapes Go.WideShapes Go.ChangeAt Go.RowKit Go.Deep

theorem wfi_range {k : Int} (h : (Lit.int .i64 k).wf = true) : -9223372036854775808 ≤ k ∧ k ≤ 9223372036854775807 := by
  simp [Lit.wf, IntKind.min, IntKind.max, IntKind.signed, IntKind.bits] at h
  omega
set_option maxRecDepth 100000 in
theorem namesBreaks_lifted (os : Os) (started : os.Started) (H : Type) (enc : TypeId × Value → H) :
    ReturnsInHanded {} Try.checked os 7 .any (Rows.namesBreaksSpec.pre6 enc Try.prog Try.f7 Rows.namesBreaksRow.domain false) (Rows.namesBreaksSpec.post enc Try.prog Try.f7 false true false false) :=
  lift_prog_int started (by kernel_rfl) Try.func7 rfl rfl rfl (fun _ _ => rfl)
    (ChangeSpec.witness6 (enc := enc) (C := Try.checked) false ⟨#[], #[.agg #[.slice none 0 0, .slice none 0 0], .int .i64 0], []⟩ 8 (by kernel_rfl) (by kernel_rfl) (by kernel_rfl) (by kernel_rfl))
    (fun W p vw vf vp vb k h hk => lawBreaks_any W p vw vf vp vb k h (wfi_range hk))

theorem namesBreaks_holds : Rows.NamesBreaksSaid :=
  OpenClaim.holds_of_wide 7 Try.f7 rfl rfl rfl rfl rfl rfl rfl ⟨rfl, rfl, rfl, rfl, rfl⟩ rfl rfl rfl rfl rfl (by kernel_rfl) Try.func7 (by kernel_rfl)
    (of_decide_eq_true (by kernel_rfl)) (by unfold Func.isWrapper; first | (rw [if_pos (by decide +kernel)]; kernel_rfl) | (rw [if_neg (by decide +kernel)]; exact ⟨rfl, rfl⟩))
    (fun os started H enc _ => namesBreaks_lifted os started H enc)
end Go.Proofs.Ytneibcpgengdnaa
