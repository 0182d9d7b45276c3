/- ranges.Check: which number may not be first. -/
import Derived.Test.YtgobcldecokppaaDoorRgChk1
import Derived.Test.YtgobcldecokppaaDoorNmCheck
import Derived.Test.YtgobcldecokppaaDoorNmCut
namespace Go.Proofs.YtgobcldecokppaaDoor
open Go.RowKit Go.Maps

theorem chk_visits (ar : ByteArray → Int) (bAt bAr bMy bE mA mM K : Nat) (o : ChkOrd bAt bAr bMy bE mA mM) (w0 : World) (hlow : w0.heap.size ≤ mM) :
    Visits w0 (ChkI ar bAt bAr bMy bE mA mM K) (fun b => b = bAt ∨ b = bE ∨ b = mM) 13 #[.pointer (some ⟨bAt, 0, none⟩), .pointer (some ⟨bAr, 0, none⟩), .pointer (some ⟨bMy, 0, none⟩), .pointer (some ⟨bE, 0, none⟩)]
      (.func (.func 15) #[] #[.pointer (some ⟨bMy, 0, none⟩)]) (chkQ ar) chkL :=
  ⟨fun args w => enters Tryd.func13 (by kernel_rfl) (c := _) (by rfl) args w, fun _ _ _ _ _ hg h hb => h.later hg hb,
    fun g s x va vb vd ve vc vk n V hI hB hf hx _ _ => chk1_any ar bAt bAr bMy bE mA mM K o g s x va vb vd ve vc vk n w0 V hI hB hf hx hlow,
    .inr ⟨15, _, rfl, fun args w => enters Tryd.func15 (by kernel_rfl) (c := _) (by rfl) args w,
      fun g s x va vb vd ve vc vk V hI hB hf hx => chk2_any ar bAt bAr bMy bE mA mM K o g s x va vb vd ve vc vk w0 V hI hf hx⟩⟩
theorem arOf_next {l : List Fn} {i : Nat} {f : Fn} (h : l[i]? = some f) (hn : f.name ∉ gAt l i) : arOf (l.take (i + 1)) = fun s => if s = f.name then (f.params.length : Int) else arOf (l.take i) s := by
  funext s
  unfold arOf
  rw [take_next h, List.find?_append]
  by_cases e : s = f.name
  · rw [if_pos e]
    have h1 : (l.take i).find? (fun f => decide (f.name = s)) = none := by
      rw [List.find?_eq_none]
      intro y hy hd
      have : y.name = s := by simpa using hd
      exact hn (by rw [← e, ← this]; exact List.mem_map.2 ⟨y, hy, rfl⟩)
    rw [h1]
    simp [e]
  · rw [if_neg e]
    have h1 : [f].find? (fun f => decide (f.name = s)) = none := by
      rw [List.find?_eq_none]
      intro y hy hd
      obtain rfl : y = f := by simpa using hy
      exact e (of_decide_eq_true hd).symm
    rw [h1]
    simp
/-- The arity map of the functions met so far. -/
def ArAt (w : World) (bAr mA : Nat) (l : List Fn) (i : Nat) : Prop := w.cell? ⟨bAr, 0, none⟩ = some (.map (some mA)) ∧ ArOf w mA (arOf (l.take i)) i
theorem ArAt.later {w w' : World} {bAr mA i : Nat} {l : List Fn} (h : ArAt w bAr mA l i) (hb : Below w.heap.size w w') : ArAt w' bAr mA l i := ⟨(hb.cell (p := ⟨bAr, 0, none⟩) (block_lt_of_cell h.1)).trans h.1, h.2.later hb⟩
theorem emptyB_next {l : List Pm} {i : Nat} {x : Pm} (h : l[i]? = some x) : emptyB (l.take (i + 1)) = (emptyB (l.take i) || decide (x.hi < x.lo)) := by rw [take_next h]; unfold emptyB; simp
theorem emptyB_stop {l : List Pm} {i : Nat} {x : Pm} (h : l[i]? = some x) (hx : x.hi < x.lo) : emptyB l = true := by
  unfold emptyB
  rw [List.any_eq_true]
  exact ⟨x, List.mem_of_getElem? h, decide_eq_true hx⟩
theorem PmAt.boxed (w : World) (x : Pm) (t : TypeId) : PmAt (w.alloc (.cells #[.string x.name, .int .i64 x.lo, .int .i64 x.hi] t)) w.heap.size 0 x := by
  constructor <;> exact World.cell?_alloc_at _ _ _ _ rfl
set_option maxRecDepth 100000 in
set_option maxHeartbeats 8000000 in
/-- ranges.Check. -/
theorem rgCheck_any (p : Pg) (vw vf : Value) (vp vb : Nat → Value) (W : World) (h : PgIn W p vw vf vp vb) (hrg : p.rng) : Calls Tryd.prog 6 #[pgV vw vf] W (Gives (fltV p.rfault) W) := by
  obtain ⟨hw, hr, hpp, hbb⟩ := id h
  obtain ⟨aw, cw, rfl, hwc, hwc2⟩ := hw.row.form
  obtain ⟨a, cap, rfl, hncap, hcap⟩ := hr.form
  obtain ⟨n, hn⟩ : ∃ n, n = p.funcs.length := ⟨_, rfl⟩
  obtain ⟨m, hm⟩ : ∃ m, m = p.widen.length := ⟨_, rfl⟩
  have hn62 : n ≤ 9223372036854775807 := by have : maxLen ≤ 9223372036854775807 := by decide
                                            omega
  have Hl := Lib.hid (And.intro hm hn)
  have Hf := Lib.hid (And.intro hpp hbb)
  have Hrg := Lib.hid hrg
  have Hrow : Hid (RowOf W (.slice a n cap) p.funcs.length 3 (fun b o i => ∀ x, p.funcs[i]? = some x → FnCells W b o x (vp i) (vb i))) := by rw [hn]; exact hr
  rw [← hn, ← hm] at h
  have HP := Lib.hid h
  rw [← hn, ← hm]
  rw [← hn] at hncap
  obtain ⟨W1, hW1⟩ : ∃ W1, W1 = (W.alloc (.cells #[.slice aw m cw, .slice a n cap] 25)).alloc (.cells #[.int .i64 0, .int .i64 0, .int .i64 0] 32) := ⟨_, rfl⟩
  have hs1 : W1.heap.size = W.heap.size + 2 := by rw [hW1]; simp
  have hb1 : Below W.heap.size W W1 := by rw [hW1]; exact ((Below.refl _ _).alloc (Nat.le_refl _) _).alloc (by (try simp only [World.size_alloc]); (try simp only [size_set]); omega) _
  have hk1 : CkAt W1 W.heap.size (.slice aw m cw) (.slice a n cap) := by
    have q : (W.alloc (.cells #[.slice aw m cw, .slice a n cap] 25)).heap.size = W.heap.size + 1 := by simp
    have k : ∀ j, (((W.alloc (.cells #[.slice aw m cw, .slice a n cap] 25)).alloc (.cells #[.int .i64 0, .int .i64 0, .int .i64 0] 32)).cell? ⟨W.heap.size, j, none⟩) = (W.alloc (.cells #[.slice aw m cw, .slice a n cap] 25)).cell? ⟨W.heap.size, j, none⟩ :=
      fun j => ((Below.refl _ _).alloc (Nat.le_refl _) _).cell (p := ⟨W.heap.size, j, none⟩) (by show W.heap.size < _; omega)
    rw [hW1]
    exact ⟨(k 0).trans (World.cell?_alloc_at _ _ _ _ rfl), (k 1).trans (World.cell?_alloc_at _ _ _ _ rfl), World.cell?_alloc_at _ _ _ _ (by rw [q]), World.cell?_alloc_at _ _ _ _ (by rw [q]), World.cell?_alloc_at _ _ _ _ (by rw [q]),
      World.frozen?_alloc_at _ _ _ _ (by rw [q]), World.frozen?_alloc_at _ _ _ _ (by rw [q]), World.frozen?_alloc_at _ _ _ _ (by rw [q])⟩
  have HW1 := Lib.hid hW1
  obtain ⟨B, hB⟩ : ∃ B, B = W.heap.size := ⟨_, rfl⟩
  have HB := Lib.hid hB
  have hBW : W.heap.size ≤ B := by omega
  have hBW2 : B ≤ W.heap.size := by omega
  unfold pgV
  rw [← hB] at hk1
  have H1 := Lib.hid (And.intro hb1 hk1)
  clear h hw hr hpp hbb hrg hn hm hW1 hB hb1 hs1
  go_enter Tryd.func6, Tryd.ntmps6
  go_upto_region 1 with (fail)
  rw [← HW1.out, ← HB.out]
  obtain ⟨c0, c1, r0, r1, r2, z0, z1, z2⟩ := hk1
  go_wp2_with fail
  refine (ncheck_any p (.slice aw m cw) (.slice a n cap) vp vb W1 (HP.out.later H1.out.1)).mono ?_
  rintro e w2 ⟨rfl, hb2⟩
  have hk2 := H1.out.2.later hb2
  have hbb2 := H1.out.1.trans (hb2.mono H1.out.1.size)
  obtain ⟨t0, ht0⟩ : ∃ t, t = p.nfault := ⟨_, rfl⟩
  rw [← ht0]
  have Ht0 := Lib.hid ht0
  obtain ⟨ea, eb, ec⟩ := t0
  unfold fltV
  obtain ⟨W3, hW3⟩ : ∃ W3, W3 = w2.alloc (.cells #[.int .i64 ea, .int .i64 eb, .int .i64 ec] 32) := ⟨_, rfl⟩
  obtain ⟨D, hD⟩ : ∃ D, D = w2.heap.size := ⟨_, rfl⟩
  have hs3 : W3.heap.size = D + 1 := by rw [hW3, hD]; simp
  have hb3 : Below w2.heap.size w2 W3 := by rw [hW3]; exact (Below.refl _ _).alloc (Nat.le_refl _) _
  have d0 : W3.cell? ⟨D, 0, none⟩ = some (.int .i64 ea) := by rw [hW3, hD]; exact World.cell?_alloc_at _ _ _ _ rfl
  have d1 : W3.cell? ⟨D, 1, none⟩ = some (.int .i64 eb) := by rw [hW3, hD]; exact World.cell?_alloc_at _ _ _ _ rfl
  have d2 : W3.cell? ⟨D, 2, none⟩ = some (.int .i64 ec) := by rw [hW3, hD]; exact World.cell?_alloc_at _ _ _ _ rfl
  have hK3 := hk2.later hb3
  have hB3 := hbb2.trans (hb3.mono hbb2.size)
  have HW3 := Lib.hid (And.intro hW3 hD)
  have HK3 := Lib.hid (And.intro hK3 hB3)
  have q3 : D < W3.heap.size := by omega
  have q3b : B + 1 < D := by have := block_lt_of_cell hk2.r0; rw [hD]; exact this
  clear c0 c1 r0 r1 r2 z0 z1 z2 hb2 hk2 hbb2 ht0 hW3 hD hs3 hb3 hB3
  go_upto_region 2 with (fail)
  rw [← HW3.out.1, ← HW3.out.2]
  obtain ⟨c0, c1, r0, r1, r2, z0, z1, z2⟩ := hK3
  have q4 : B + 1 < W3.heap.size := block_lt_of_cell r0
  by_cases h0 : ea = 0
  · subst h0
    have hfl : p.fault.1 = 0 := by
      by_cases h : p.fault.1 = 0
      · exact h
      · have := Pg.nfault_bad h
        rw [← Ht0.out] at this
        exact absurd (by rw [← this]) h
    have hn0 : p.nfault.1 = 0 := by rw [← Ht0.out]
    have hgood := Pg.good hfl
    have Hgood := Lib.hid hgood
    have Hright : Hid (∀ (i : Nat) (x : Fn), p.funcs[i]? = some x → x.name ∉ gAt p.funcs i ∧ twiceB x.params [] = false ∧ (St.nchks (parK x.params) (gAt p.funcs i) 0 x.body).2 = 0) := fun i x hx => Fn.right (Pg.nfault_all hfl hn0 i x hx)
    have Hnf : Hid (p.rfault = Fn.rfaults [] p.funcs 0) := by show _ = _; unfold Pg.rfault; rw [if_neg (by rw [hn0]; decide)]
    have hn32 : n ≤ 32 := by rw [Hl.out.2]; exact hgood.1
    obtain ⟨W5, hW5⟩ : ∃ W5, W5 = (W3.alloc (.map #[] 0)).alloc (.cells #[.map (some W3.heap.size)] 60) := ⟨_, rfl⟩
    obtain ⟨mA, hmA⟩ : ∃ b, b = W3.heap.size := ⟨_, rfl⟩
    rw [← hmA] at hW5
    have hb5 : Below W3.heap.size W3 W5 := by rw [hW5]; exact ((Below.refl _ _).alloc (Nat.le_refl _) _).alloc (by (try simp only [World.size_alloc]); (try simp only [size_set]); omega) _
    have hA5 : ArAt W5 (mA + 1) mA p.funcs 0 := by
      refine ⟨by rw [hW5, hmA]; exact World.cell?_alloc_at _ _ _ _ (by simp), [], ?_, Nat.zero_le _⟩
      have h1 := SMap.made W3
      rw [hW5, hmA]
      have h2 := h1.later ((Below.refl (W3.alloc (.map #[] 0)).heap.size (W3.alloc (.map #[] 0))).alloc (Nat.le_refl _) (.cells #[.map (some W3.heap.size)] 60)) h1.lt
      exact h2
    have hz5 : W5.heap.size = mA + 2 := by rw [hW5, hmA]; simp
    have HK5 := Lib.hid (And.intro (HK3.out.1.later hb5) (And.intro (HK3.out.2.trans (hb5.mono HK3.out.2.size)) hA5))
    have HW5 := Lib.hid (And.intro hW5 hmA)
    have hmm := @run_makeMap Tryd.prog
    have qB : B + 1 < mA := by rw [hmA]; exact q4
    clear hgood hW5 hmA hb5 hA5 hz5 hfl hn0
    go_upto_region 5 with (fail)
    rw [← HW5.out.2, ← HW5.out.1]
    clear c0 c1 r0 r1 r2 z0 z1 z2 d0 d1 d2
    obtain ⟨c0, c1, r0, r1, r2, z0, z1, z2⟩ := HK5.out.1
    go_wp2_with fail
    clear c0 c1 r0 r1 r2 z0 z1 z2
    go_loopg [22] n (fun g iv wx => ∃ i : Nat, g = n - i ∧ iv = .int .i64 (i : Int) ∧ i ≤ n ∧ (∀ j y, j < i → p.funcs[j]? = some y → (y.rfault ([] ++ p.funcs.take j) (0 + j)).1 = 0) ∧ CkAt wx B (.slice aw m cw) (.slice a n cap) ∧ Below W.heap.size W wx ∧ ArAt wx (mA + 1) mA p.funcs i)
    case atStart => exact ⟨0, rfl, rfl, Nat.zero_le _, fun j y h => by omega, HK5.out.1, HK5.out.2.1, HK5.out.2.2⟩
    case round =>
      obtain ⟨i, hg, rfl, hi, hp, hC, hO, hA⟩ := hrel
      obtain ⟨V0, hV0⟩ : ∃ V : World, V = wr := ⟨_, rfl⟩
      subst hV0
      have HK := Lib.hid (And.intro hp (And.intro hC (And.intro hO hA)))
      have Hg := Lib.hid hg
      obtain ⟨c0, c1, r0, r1, r2, z0, z1, z2⟩ := hC
      have q5 : B + 1 < V0.heap.size := block_lt_of_cell r0
      clear hp hg
      by_cases hin : i < n
      · obtain ⟨x, hx⟩ : ∃ x, p.funcs[i]? = some x := ⟨_, List.getElem?_eq_getElem (by rw [← Hl.out.2]; exact hin)⟩
        obtain ⟨b, off, rfl, hb, hP⟩ := Hrow.out.at (i := i) (by rw [← Hl.out.2]; exact hin)
        have hfc := (hP x hx).later hO hb
        have hrow := Hf.out.1 i x hx
        have hsts := Hf.out.2 i x hx
        have hxg := Hgood.out.2 i x hx
        have Hxr := Lib.hid (Hright.out i x hx)
        have Hxrg := Lib.hid (Pg.rng_at Hrg.out hx)
        obtain ⟨ap, cp, hvp, hpc1, hpc2⟩ := hrow.form
        obtain ⟨ab, cb, hvb, -⟩ := hsts.form
        rw [hvp] at hfc hrow
        rw [hvb] at hfc hsts
        obtain ⟨np, hnp⟩ : ∃ n, n = x.params.length := ⟨_, rfl⟩
        obtain ⟨nb, hnb⟩ : ∃ n, n = x.body.length := ⟨_, rfl⟩
        rw [← hnp] at hfc hpc1
        rw [← hnb] at hfc hsts
        have Hrp : Hid (RowOf W (.slice ap np cp) x.params.length 3 (fun b o k => ∀ y, x.params[k]? = some y → PmAt W b o y)) := by rw [← hnp] at hrow; rw [← hnp]; exact hrow
        have hnp8 : np ≤ 8 := by rw [hnp]; exact hxg.few
        have Hxg := Lib.hid hxg
        have hsz2 : x.name.size ≤ maxLen := by have := hxg.name; unfold maxLen; omega
        have HX := Lib.hid (And.intro hx (And.intro hsts hnp))
        obtain ⟨r, hr⟩ : ∃ r, r = x.rfault (p.funcs.take i) i := ⟨_, rfl⟩
        have Hr : Hid (r = x.rfault ([] ++ p.funcs.take i) (0 + i)) := by show _ = _; rw [hr, List.nil_append, Nat.zero_add]
        have Hrr : Hid (r = x.rfault (p.funcs.take i) i) := hr
        have Hbad : Hid (r.1 ≠ 0 → p.rfault = r) := fun h => by rw [Hnf.out, Fn.rfaults_hit HX.out.1 HK.out.1 (by rw [← Hr.out]; exact h), ← Hr.out]
        obtain ⟨W6, hW6⟩ : ∃ W6, W6 = V0.alloc (.cells #[.string x.name, .slice ap np cp, .slice ab nb cb] 40) := ⟨_, rfl⟩
        obtain ⟨D6, hD6⟩ : ∃ D, D = V0.heap.size := ⟨_, rfl⟩
        have hb6 : Below V0.heap.size V0 W6 := by rw [hW6]; exact (Below.refl _ _).alloc (Nat.le_refl _) _
        have hfc6 : FnCells W6 D6 0 x (.slice ap np cp) (.slice ab nb cb) := by rw [hW6, hD6]; constructor <;> exact World.cell?_alloc_at _ _ _ _ rfl
        obtain ⟨mM, hmM⟩ : ∃ b, b = W6.heap.size := ⟨_, rfl⟩
        obtain ⟨W7, hW7⟩ : ∃ W7, W7 = (W6.alloc (.map #[] 0)).alloc (.cells #[.map (some mM)] 60) := ⟨_, rfl⟩
        have hb67 : Below W6.heap.size W6 W7 := by rw [hW7]; exact ((Below.refl _ _).alloc (Nat.le_refl _) _).alloc (by (try simp only [World.size_alloc]); (try simp only [size_set]); omega) _
        have hb7 : Below V0.heap.size V0 W7 := hb6.trans (hb67.mono hb6.size)
        have hM7 : NumsOf W7 mM [] 0 := by
          have h1 := SMap.made W6
          have h2 := h1.later ((Below.refl (W6.alloc (.map #[] 0)).heap.size (W6.alloc (.map #[] 0))).alloc (Nat.le_refl _) (.cells #[.map (some mM)] 60)) h1.lt
          rw [hW7, hmM]
          rw [hmM] at h2
          exact ⟨[], _, h2, by simp, by simp, by simp, Nat.le_refl _⟩
        have hcM : W7.cell? ⟨mM + 1, 0, none⟩ = some (.map (some mM)) := by rw [hW7, hmM]; exact World.cell?_alloc_at _ _ _ _ (by simp)
        have hD6l : D6 < W6.heap.size := block_lt_of_cell hfc6.c0
        have hfc7 := hfc6.later hb67 hD6l
        have hz7 : mM + 2 ≤ W7.heap.size ∧ W7.heap.size ≤ mM + 2 := by rw [hW7, hmM]; simp
        have H7 := Lib.hid (And.intro (HK.out.2.1.later hb7) (And.intro (HK.out.2.2.1.trans (hb7.mono HK.out.2.2.1.size)) (And.intro (HK.out.2.2.2.later hb7) (And.intro hfc7 (And.intro hM7 (And.intro hcM hb7))))))
        have HW6 := Lib.hid (And.intro hW6 hD6)
        have HW7 := Lib.hid (And.intro hW7 hmM)
        have qA : mA + 1 < V0.heap.size := block_lt_of_cell hA.1
        have qD6 : V0.heap.size ≤ D6 := by omega
        have qM : D6 < mM := by rw [hmM]; exact hD6l
        have hVW := hO.size
        have i1 : W7.cell? ⟨D6, 1, none⟩ = some (.slice ap np cp) := by have := hfc7.c1; simpa using this
        obtain ⟨f0, f1, f2⟩ := hfc
        clear hO hA hx hb hP hrow hsts hxg hvp hvb hpc1 hpc2 hnp hnb hr hW6 hD6 hb6 hfc6 hmM hW7 hb67 hb7 hM7 hcM hD6l hfc7
        go_upto_region 8 with (fail)
        rw [← HW6.out.1, ← HW6.out.2]
        clear f0 f1 f2 c0 c1 r0 r1 r2 z0 z1 z2
        go_upto_region 9 with (fail)
        rw [← HW7.out.2, ← HW7.out.1]
        go_wp2_with fail
        clear i1
        go_loopg [31] np (fun gg jv wx => ∃ j : Nat, gg = np - j ∧ jv = .int .i64 (j : Int) ∧ j ≤ np ∧ emptyB (x.params.take j) = false ∧ Below V0.heap.size V0 wx ∧ FnCells wx D6 0 x (.slice ap np cp) (.slice ab nb cb) ∧ NumsOf wx mM ((x.params.take j).map (·.name)) j ∧ wx.cell? ⟨mM + 1, 0, none⟩ = some (.map (some mM)))
        case atStart => exact ⟨0, rfl, rfl, Nat.zero_le _, rfl, H7.out.2.2.2.2.2.2, H7.out.2.2.2.1, H7.out.2.2.2.2.1, H7.out.2.2.2.2.2.1⟩
        case round =>
          obtain ⟨j, hg2, rfl, hj, hem, hbj, hfj, hNj, hcj⟩ := hrel
          have HJ := Lib.hid (And.intro hem (And.intro hbj (And.intro hfj (And.intro hNj hcj))))
          have Hg2 := Lib.hid hg2
          have hbWj : Below W.heap.size W wr := HK.out.2.2.1.trans (hbj.mono hVW)
          have HbWj := Lib.hid hbWj
          have qj := hbj.size
          have qM2 : mM + 1 < wr.heap.size := block_lt_of_cell hcj
          clear hem hNj hg2 hbj
          by_cases hjn : j < np
          --<A
          · obtain ⟨y, hy⟩ : ∃ y, x.params[j]? = some y := ⟨_, List.getElem?_eq_getElem (by rw [← HX.out.2.2]; exact hjn)⟩
            obtain ⟨by_, oy, rfl, hby, hPy⟩ := Hrp.out.at (i := j) (by rw [← HX.out.2.2]; exact hjn)
            obtain ⟨k0, k1, k2⟩ := (hPy y hy).later hbWj hby
            have hysz : y.name.size ≤ maxLen := by have := Hxg.out.params y (List.mem_of_getElem? hy); unfold maxLen; omega
            obtain ⟨W8, hW8⟩ : ∃ W8, W8 = wr.alloc (.cells #[.string y.name, .int .i64 y.lo, .int .i64 y.hi] 49) := ⟨_, rfl⟩
            obtain ⟨D8, hD8⟩ : ∃ D, D = wr.heap.size := ⟨_, rfl⟩
            have hb8 : Below wr.heap.size wr W8 := by rw [hW8]; exact (Below.refl _ _).alloc (Nat.le_refl _) _
            have hp8 : PmAt W8 D8 0 y := by rw [hW8, hD8]; exact PmAt.boxed _ _ _
            have hcj8 := (hb8.cell (p := ⟨mM + 1, 0, none⟩) qM2).trans hcj
            have qD8 : mM + 1 < D8 := by omega
            have hb08 : Below V0.heap.size V0 W8 := HJ.out.2.1.trans (hb8.mono qj)
            have H8 := Lib.hid (And.intro hb08 (And.intro (HJ.out.2.2.1.later hb8 (by omega)) (And.intro (HJ.out.2.2.2.1.later hb8) (HK.out.2.1.later hb08))))
            have HW8 := Lib.hid (And.intro hW8 hD8)
            have Hy := Lib.hid hy
            clear hy hPy hby hbWj hfj hcj hW8 hD8 hb8 hb08
            go_upto_region 12 with (fail)
            rw [← HW8.out.1, ← HW8.out.2]
            clear k0 k1 k2
            obtain ⟨k0, k1, k2⟩ := hp8
            simp only [Nat.zero_add] at k1 k2
            by_cases hlo : y.hi < y.lo
            · have hq1 : decide (y.hi < y.lo) = true := decide_eq_true hlo
              have Hres : Hid (p.rfault = (40, (i : Int), 0)) := by
                show _ = _
                have h : r = (40, (i : Int), 0) := by rw [Hrr.out]; unfold Fn.rfault; rw [if_pos (emptyB_stop Hy.out hlo)]
                rw [Hbad.out (by rw [h]; show (40 : Int) ≠ 0; decide), h]
              obtain ⟨c0, c1, r0, r1, r2, z0, z1, z2⟩ := H8.out.2.2.2
              clear hlo hcj8
              go_wp2_with fail
              obtain ⟨w9, hw9⟩ : ∃ w9, w9 = ((W8.setCell ⟨B + 1, 0, none⟩ (.int .i64 40)).setCell ⟨B + 1, 1, none⟩ (.int .i64 (i : Int))).setCell ⟨B + 1, 2, none⟩ (.int .i64 0) := ⟨_, rfl⟩
              rw [← hw9]
              obtain ⟨e0, e1, e2, hO9⟩ := H8.out.2.2.2.answer (40, (i : Int), 0) w9 hw9
              have HO9 := Lib.hid hO9
              clear hw9 hO9 c0 c1 r0 r1 r2 z0 z1 z2 k0 k1 k2
              dsimp only at e0 e1 e2
              refine bodyPost_ret (by simp [results, Tryd.results6, go_sem, e0, e1, e2]; try rfl) rfl ?_
              exact ⟨by rw [Hres.out]; rfl, (HK.out.2.2.1.trans (H8.out.1.mono hVW)).trans (HO9.out.below (Nat.le_trans hVW H8.out.1.size) fun _ e => by omega)⟩
            · have hq1 : decide (y.hi < y.lo) = false := decide_eq_false hlo
              obtain ⟨S, F, hS, h2, h3, h4, h5⟩ := H8.out.2.2.1
              obtain ⟨z, hz⟩ : ∃ z, z = F y.name := ⟨_, rfl⟩
              have hzr : 0 ≤ z ∧ z ≤ 100 := by
                rw [hz]
                by_cases hm : y.name ∈ (x.params.take j).map (·.name)
                · have h := (h3 y.name hm).2
                  have h' := (h3 y.name hm).1
                  omega
                · rw [h4 y.name hm]; omega
              have Hm := Lib.hid (And.intro hS (And.intro h2 (And.intro h3 (And.intro h4 (And.intro h5 hz)))))
              have hSl : S.length ≤ 1000000 := by omega
              have Hlo := Lib.hid hlo
              clear hlo hS h2 h3 h4 h5 hz
              go_wp2_with (first
                | (at_lookup; refine sm_look (t := 60) Tryd.underlying60 (by kernel_rfl) rfl _ _ rfl mM S F rfl Hm.out.1 y.name rfl hysz z Hm.out.2.2.2.2.2.symm ?_)
                | (at_mapUpdate; refine sm_put (t := 60) Tryd.underlying60 rfl _ _ _ rfl mM S F rfl Hm.out.1 y.name rfl (z + 1) rfl hysz hSl ?_; intro w5 hm5 hg5; have H5 := Lib.hid (And.intro hm5 hg5); clear hm5 hg5))
              go_roundg (np - (j + 1))
              case measure => have := Hg2.out; omega
              case rel =>
                have hO5 := Oth.of_grown H5.out.2
                have hN5 := NumsOf.put Hm.out.2.1 Hm.out.2.2.1 Hm.out.2.2.2.1 Hm.out.2.2.2.2.1 Hm.out.2.2.2.2.2.symm H5.out.1
                refine ⟨j + 1, rfl, by go_num, hjn, ?_, H8.out.1.trans (hO5.below H8.out.1.size fun b (e : b = mM) => by omega), ?_, ?_, ?_⟩
                · rw [emptyB_next Hy.out, HJ.out.1, decide_eq_false (by have := Hlo.out; omega)]; rfl
                · have qk : D6 < W8.heap.size := block_lt_of_cell H8.out.2.1.c0
                  have kk := fun q => hO5.cell (p := ⟨D6, q, none⟩) qk (by show D6 ≠ mM; omega)
                  exact ⟨(kk _).trans H8.out.2.1.c0, (kk _).trans H8.out.2.1.c1, (kk _).trans H8.out.2.1.c2⟩
                · rw [take_next Hy.out, List.map_append]; exact hN5
                · exact (hO5.cell (p := ⟨mM + 1, 0, none⟩) (block_lt_of_cell hcj8) (by show mM + 1 ≠ mM; omega)).trans hcj8
          --A>
          · obtain rfl : np = j := by omega
            have htk : x.params.take np = x.params := List.take_of_length_le (by rw [← HX.out.2.2]; exact Nat.le_refl _)
            have hem := HJ.out.1
            have hNj := HJ.out.2.2.2.1
            rw [htk] at hem hNj
            have Hem := Lib.hid (And.intro hem hNj)
            clear hjn htk hem hNj
            have i2 := hfj.c2
            simp only [Nat.zero_add] at i2
            go_upto_region 17 with (fail)
            obtain ⟨W9, hW9⟩ : ∃ W9, W9 = (wr.alloc (.cells #[.int .i64 0] 3)).alloc (.cells #[.int .i64 0] 30) := ⟨_, rfl⟩
            obtain ⟨bAt, hbAt⟩ : ∃ b, b = wr.heap.size := ⟨_, rfl⟩
            rw [← hW9, ← hbAt]
            have hb9 : Below wr.heap.size wr W9 := by rw [hW9]; exact ((Below.refl _ _).alloc (Nat.le_refl _) _).alloc (by (try simp only [World.size_alloc]); (try simp only [size_set]); omega) _
            have hC9 : ChkI (arOf (p.funcs.take i)) bAt (mA + 1) (mM + 1) (bAt + 1) mA mM i (St.totals x.body) (x.params.map (·.name), 0, 0) W9 := by
              have q1 : (wr.alloc (.cells #[.int .i64 0] 3)).heap.size = bAt + 1 := by rw [hbAt]; simp
              have kA : Below (wr.alloc (.cells #[.int .i64 0] 3)).heap.size (wr.alloc (.cells #[.int .i64 0] 3)) W9 := by rw [hW9]; exact (Below.refl _ _).alloc (Nat.le_refl _) _
              have hA9 := ((HK.out.2.2.2.later HJ.out.2.1).later hb9)
              have hNm : NumsOf W9 mM (x.params.map (·.name)) (0 + 8) := ((Hem.out.2).later hb9).mono (by omega)
              refine ⟨?_, ?_, ?_, ?_, hA9.1, (hb9.cell (p := ⟨mM + 1, 0, none⟩) qM2).trans hcj, hA9.2, hNm, by have := Hxg.out.total; show 0 + _ ≤ 5000; omega⟩
              · rw [kA.cell (p := ⟨bAt, 0, none⟩) (by show bAt < _; omega), hbAt]; exact World.cell?_alloc_at _ _ _ _ rfl
              · rw [kA.frozen (p := ⟨bAt, 0, none⟩) (by show bAt < _; omega), hbAt]; exact World.frozen?_alloc_at _ _ _ _ rfl
              · rw [hW9]; exact World.cell?_alloc_at _ _ _ _ (by omega)
              · rw [hW9]; exact World.frozen?_alloc_at _ _ _ _ (by omega)
            have hord : ChkOrd bAt (mA + 1) (mM + 1) (bAt + 1) mA mM := ⟨by omega, by omega, by omega, by omega, by omega⟩
            have hb09 : Below V0.heap.size V0 W9 := HJ.out.2.1.trans (hb9.mono qj)
            have hbW9 : Below W.heap.size W W9 := HK.out.2.2.1.trans (hb09.mono hVW)
            have hz9 : bAt + 2 ≤ W9.heap.size := by rw [hW9, hbAt]; simp
            have Hcall := Lib.hid (over_any W _ _ _ _ _ _ _ (chk_visits (arOf (p.funcs.take i)) bAt (mA + 1) (mM + 1) (bAt + 1) mA mM i hord W (by omega)) (fun b hb => by rcases hb with e | e | e <;> omega) x.body (.slice ab nb cb) HX.out.2.1 (St.totals x.body) (x.params.map (·.name), 0, 0) 0 W9 hC9 hbW9 (fun b hb => by rcases hb with e | e | e <;> omega) Hxg.out.body Hxrg.out (Nat.le_refl _) (by decide) (by have := Hxg.out.total; omega))
            obtain ⟨R', hfold⟩ := Fn.chk_body (f := x) (arOf (p.funcs.take i)) Hxg.out.body Hxr.out.2.2
            rw [hfold] at Hcall
            obtain ⟨c, hc⟩ : ∃ c, c = St.rchks (x.params.map (·.name)) (arOf (p.funcs.take i)) x.body := ⟨_, rfl⟩
            rw [← hc] at Hcall
            have Hrf : Hid (r = if c.2 ≠ 0 then (c.2, (i : Int), (c.1 : Int)) else (0, 0, 0)) := by
              show _ = _
              rw [Hrr.out, hc]; unfold Fn.rfault; rw [Hem.out.1]; rfl
            obtain ⟨c1, c2⟩ := c
            have i2' := (hb9.cell (p := ⟨D6, 2, none⟩) (block_lt_of_cell i2)).trans i2
            have H9 := Lib.hid (And.intro hb09 (hfj.later hb9 (block_lt_of_cell hfj.c0)))
            have qb1 : mM + 1 < bAt := by omega
            unfold visV at Hcall
            clear hW9 hbAt hb9 hC9 hord hb09 hbW9 hfold hc i2 hfj hcj Hem
            go_wp2_with fail
            refine Hcall.out.mono ?_
            rintro e w10 ⟨rfl, hI10, hO10⟩
            have hnS : ∀ b, b < mM → ¬ (b = bAt ∨ b = bAt + 1 ∨ b = mM) := fun b hb h => by omega
            have hb010 : Below V0.heap.size V0 w10 := H9.out.1.trans (hO10.below H9.out.1.size fun b hb => by omega)
            have hD9 : D6 < W9.heap.size := block_lt_of_cell H9.out.2.c0
            have hf10 : FnCells w10 D6 0 x (.slice ap np cp) (.slice ab nb cb) := by
              have kk := fun j => hO10.cell (p := ⟨D6, j, none⟩) hD9 (hnS D6 qM)
              exact ⟨(kk _).trans H9.out.2.c0, (kk _).trans H9.out.2.c1, (kk _).trans H9.out.2.c2⟩
            have cE := hI10.cE
            have cAt := hI10.cAt
            have cAr := hI10.cAr
            simp only at cE cAt
            have H10 := Lib.hid (And.intro hb010 (And.intro hf10 (And.intro (HK.out.2.1.later hb010) hI10.arity)))
            clear hI10 hO10 hb010 i2' Hcall
            by_cases hc0 : c2 = 0
            · subst hc0
              have Hr0 : Hid (r = (0, 0, 0)) := by show _ = _; rw [Hrf.out]; rfl
              obtain ⟨S, hS, hSl⟩ := H10.out.2.2.2
              have HS := Lib.hid (And.intro hS hSl)
              have hSl2 : S.length ≤ 1000000 := by omega
              obtain ⟨f0, f1, f2⟩ := hf10
              simp only [Nat.zero_add] at f1 f2
              clear hS hSl cAt f2
              go_wp2_with (at_mapUpdate; refine sm_put (t := 60) Tryd.underlying60 rfl _ _ _ rfl mA S _ rfl HS.out.1 x.name rfl (np : Int) rfl hsz2 hSl2 ?_; intro w5 hm5 hg5; have H5 := Lib.hid (And.intro hm5 hg5); clear hm5 hg5)
              go_roundg (n - (i + 1))
              case measure => have := Hg.out; omega
              case rel =>
                have hO5 := Oth.of_grown H5.out.2
                have hm5 := H5.out.1
                rw [HX.out.2.2, ← arOf_next HX.out.1 Hxr.out.1] at hm5
                have hbW10 : Below W.heap.size W w10 := HK.out.2.2.1.trans (H10.out.1.mono hVW)
                refine ⟨i + 1, rfl, by go_num, hin, fun j y hj hy => ?_, H10.out.2.2.1.oth hO5 (by omega) (by omega), hbW10.trans (hO5.below hbW10.size fun b (e : b = mA) => by omega), ?_, _, hm5, ?_⟩
                · by_cases e : j = i
                  · subst e
                    rw [HX.out.1] at hy
                    cases hy
                    rw [← Hr.out, Hr0.out]
                  · exact HK.out.1 j y (by omega) hy
                · exact (hO5.cell (p := ⟨mA + 1, 0, none⟩) (block_lt_of_cell cAr) (by show mA + 1 ≠ mA; omega)).trans cAr
                · unfold insS
                  have hSl := HS.out.2
                  split
                  · omega
                  · simp only [List.length_cons]; omega
            · have hq : (c2 != 0) = true := by simp [hc0]
              have Hres : Hid (p.rfault = (c2, (i : Int), (c1 : Int))) := by
                show _ = _
                have h : r = (c2, (i : Int), (c1 : Int)) := by rw [Hrf.out, if_pos hc0]
                rw [Hbad.out (by rw [h]; exact hc0), h]
              obtain ⟨c0, c1', r0, r1, r2, z0, z1, z2⟩ := H10.out.2.2.1
              clear hc0 cAr hf10
              go_wp2_with fail
              obtain ⟨w9, hw9⟩ : ∃ w9, w9 = ((w10.setCell ⟨B + 1, 0, none⟩ (.int .i64 c2)).setCell ⟨B + 1, 1, none⟩ (.int .i64 (i : Int))).setCell ⟨B + 1, 2, none⟩ (.int .i64 (c1 : Int)) := ⟨_, rfl⟩
              rw [← hw9]
              obtain ⟨e0, e1, e2, hO9⟩ := H10.out.2.2.1.answer (c2, (i : Int), (c1 : Int)) w9 hw9
              have HO9 := Lib.hid hO9
              clear hw9 hO9 c0 c1' r0 r1 r2 z0 z1 z2 cE cAt
              dsimp only at e0 e1 e2
              refine bodyPost_ret (by simp [results, Tryd.results6, go_sem, e0, e1, e2]; try rfl) rfl ?_
              exact ⟨by rw [Hres.out]; rfl, (HK.out.2.2.1.trans (H10.out.1.mono hVW)).trans (HO9.out.below (Nat.le_trans hVW H10.out.1.size) fun _ e => by omega)⟩
      · obtain rfl : n = i := by omega
        have Hres : Hid (p.rfault = (0, 0, 0)) := by
          show _ = _
          rw [Hnf.out]
          exact Fn.rfaults_none fun j y hy => HK.out.1 j y (by rw [Hl.out.2]; exact (List.getElem?_eq_some_iff.1 hy).1) hy
        clear hin hO hA
        go_wp2_with fail
        obtain ⟨w9, hw9⟩ : ∃ w9, w9 = ((V0.setCell ⟨B + 1, 0, none⟩ (.int .i64 0)).setCell ⟨B + 1, 1, none⟩ (.int .i64 0)).setCell ⟨B + 1, 2, none⟩ (.int .i64 0) := ⟨_, rfl⟩
        rw [← hw9]
        obtain ⟨e0, e1, e2, hO9⟩ := HK.out.2.1.answer (0, 0, 0) w9 hw9
        have HO9 := Lib.hid hO9
        clear hw9 hO9 c0 c1 r0 r1 r2 z0 z1 z2
        dsimp only at e0 e1 e2
        refine bodyPost_ret (by simp [results, Tryd.results6, go_sem, e0, e1, e2]; try rfl) rfl ?_
        exact ⟨by rw [Hres.out]; rfl, HK.out.2.2.1.trans (HO9.out.below HK.out.2.2.1.size fun _ e => by omega)⟩
  · have hq : (ea != 0) = true := by simp [h0]
    have Hres : Hid (p.rfault = (ea, eb, ec)) := by
      show _ = _
      unfold Pg.rfault
      rw [← Ht0.out, if_pos h0]
    clear h0
    go_wp2_with fail
    obtain ⟨w9, hw9⟩ : ∃ w9, w9 = ((W3.setCell ⟨B + 1, 0, none⟩ (.int .i64 ea)).setCell ⟨B + 1, 1, none⟩ (.int .i64 eb)).setCell ⟨B + 1, 2, none⟩ (.int .i64 ec) := ⟨_, rfl⟩
    rw [← hw9]
    obtain ⟨e0, e1, e2, hO9⟩ := HK3.out.1.answer (ea, eb, ec) w9 hw9
    have HO9 := Lib.hid hO9
    clear hw9 hO9 c0 c1 r0 r1 r2 z0 z1 z2 d0 d1 d2
    dsimp only at e0 e1 e2
    refine bodyPost_ret (by simp [results, Tryd.results6, go_sem, e0, e1, e2]; try rfl) rfl ?_
    exact ⟨by rw [Hres.out]; rfl, HK3.out.2.trans (HO9.out.below HK3.out.2.size fun _ e => by omega)⟩
theorem Pg.fault_of_rfault {p : Pg} (h : p.rfault.1 = 0) : p.fault.1 = 0 ∧ p.nfault.1 = 0 := by
  have h1 : p.nfault.1 = 0 := by
    by_cases e : p.nfault.1 = 0
    · exact e
    · unfold Pg.rfault at h; rw [if_pos e] at h; exact absurd h e
  refine ⟨?_, h1⟩
  by_cases e : p.fault.1 = 0
  · exact e
  · rw [Pg.nfault_bad e] at h1; exact absurd h1 e
end Go.Proofs.YtgobcldecokppaaDoor
