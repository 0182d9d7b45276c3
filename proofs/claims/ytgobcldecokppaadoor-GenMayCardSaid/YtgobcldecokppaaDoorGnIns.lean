/- code.instruction: an instruction that may be. -/
import Derived.Test.YtgobcldecokppaaDoorGnMay
import Derived.Test.YtgobcldecokppaaDoorGnSamM
import Derived.BigQuiet
/- code.Find, code.isName, code.Known over a module in memory. -/
namespace Go.Proofs.YtgobcldecokppaaDoor
open Go.RowKit Go.Maps

theorem gnBytes_eqb (a b : ByteArray) : (a.toList == b.toList) = decide (a = b) := by
  rw [Bool.eq_iff_iff, beq_iff_eq, decide_eq_true_eq]
  constructor
  · intro h
    rw [ByteArray.toList_eq, ByteArray.toList_eq] at h
    have : a.data = b.data := Array.toList_inj.1 h
    cases a; cases b; simp_all
  · intro h; rw [h]
theorem known_code_any (o : Int) (W : World) (h : 0 ≤ o ∧ o < 20) : Calls Tryd.prog 31 #[.int .i64 o] W (fun e W' => e = .returned (.bool true) ∧ W = W') := by
  obtain ⟨h1, h2⟩ := h
  go_enter Tryd.func31, Tryd.ntmps31
  go_wp2_with fail
  go_ret
  exact ⟨rfl, rfl⟩
set_option maxRecDepth 100000 in
set_option maxHeartbeats 1000000 in
theorem isName_any (s : ByteArray) (hs : nameB s = true) (W : World) : Calls Tryd.prog 30 #[.string s] W (fun e W' => e = .returned (.bool true) ∧ W = W') := by
  unfold nameB at hs
  simp only [Bool.and_eq_true, decide_eq_true_eq] at hs
  obtain ⟨⟨⟨⟨h16, h0⟩, hl⟩, ha⟩, _⟩ := hs
  have ha := all_al.1 ha
  have he := empty_iff s
  have hq : ¬ s.toList = [] := fun e => by
    rw [e] at he
    have h1 : s.size = 0 := by simpa using he
    omega
  have hq2 : s.toList.isEmpty = false := by simp [hq]
  have Ha := Lib.hid (And.intro ha hl)
  have hq3 : decide ((s.size : Int) ≤ 16) = true := by simp; omega
  clear ha hl he
  go_enter Tryd.func30, Tryd.ntmps30
  go_wp2_with fail
  go_loopg [7] s.size (fun g iv wx => ∃ i : Nat, g = s.size - i ∧ iv = .int .i64 (i : Int) ∧ i ≤ s.size ∧ wx = W)
  case atStart => exact ⟨0, rfl, rfl, Nat.zero_le _, rfl⟩
  case round =>
    obtain ⟨i, hg, rfl, hi, rfl⟩ := hrel
    by_cases hin : i < s.size
    · have hal := Ha.out.1 i hin
      rw [← byteN_eq hin] at hal
      by_cases hlet : isLet ((s[i]'hin).toNat : Int) = true
      · unfold isLet at hlet
        simp only [Bool.and_eq_true, decide_eq_true_eq] at hlet
        obtain ⟨l1, l2⟩ := hlet
        clear hal
        go_wp2_with fail
        go_roundg (s.size - (i + 1))
        case measure => omega
        case rel => exact ⟨i + 1, rfl, by go_num, hin, rfl⟩
      · have hi0 : i ≠ 0 := by
          rintro rfl
          rw [byteN_eq hin] at hlet
          exact hlet Ha.out.2
        unfold isAl at hal
        simp only [Bool.or_eq_true] at hal
        have hd := hal.resolve_left hlet
        unfold isDig at hd
        simp only [Bool.and_eq_true, decide_eq_true_eq] at hd
        obtain ⟨l1, l2⟩ := hd
        have l3 : ¬ (97 : Int) ≤ ((s[i]'hin).toNat : Int) := by omega
        have hi1 : ((i : Int) == 0) = false := by simp; omega
        have l4 : decide (((s[i]'hin).toNat : Int) < 48) = false := by simp; omega
        have l5 : decide ((57 : Int) < ((s[i]'hin).toNat : Int)) = false := by simp; omega
        clear hal hlet
        go_wp2_with fail
        go_roundg (s.size - (i + 1))
        case measure => omega
        case rel => exact ⟨i + 1, rfl, by go_num, hin, rfl⟩
    · go_wp2_with fail
      go_ret
      exact ⟨rfl, rfl⟩
set_option maxRecDepth 100000 in
set_option maxHeartbeats 1000000 in
theorem find1g_any (t s : ByteArray) (vp vc : Value) (r wd : Int) (D : Nat) (W : World) (h : W.cell? ⟨D, 0, none⟩ = some (.string s)) :
    Calls Tryd.prog 20 #[.agg #[.string t, vp, .int .i64 r, .int .i64 wd, vc], .pointer (some ⟨D, 0, none⟩)] W (Gives (.bool (decide (t = s))) W) := by
  obtain ⟨W1, hW1⟩ : ∃ W1, W1 = W.alloc (.cells #[.string t, vp, .int .i64 r, .int .i64 wd, vc] 44) := ⟨_, rfl⟩
  obtain ⟨B, hB⟩ : ∃ B, B = W.heap.size := ⟨_, rfl⟩
  have hb1 : Below W.heap.size W W1 := by rw [hW1]; exact (Below.refl _ _).alloc (Nat.le_refl _) _
  have c0 : W1.cell? ⟨B, 0, none⟩ = some (.string t) := by rw [hW1, hB]; exact World.cell?_alloc_at _ _ _ _ rfl
  have d0 := (hb1.cell (p := ⟨D, 0, none⟩) (block_lt_of_cell h)).trans h
  have HW1 := Lib.hid (And.intro hW1 (And.intro hB hb1))
  obtain ⟨z, hz⟩ : ∃ z, z = (t.toList == s.toList) := ⟨_, rfl⟩
  have Hz : Hid (z = decide (t = s)) := by show _ = _; rw [hz, gnBytes_eqb]
  clear hW1 hB hb1 h
  rw [← Hz.out]
  rw [hz]
  clear hz Hz
  go_enter Tryd.func20, Tryd.ntmps20
  go_upto_region 1 with (fail)
  rw [← HW1.out.1, ← HW1.out.2.1]
  go_wp2_with fail
  go_ret
  exact ⟨by first | rfl | simp, HW1.out.2.2⟩
set_option maxRecDepth 100000 in
set_option maxHeartbeats 1000000 in
theorem indexG_any (l : List GR) (vm vt : Value) (ts : List Int) (D : Nat) (s : ByteArray) (i0 : Nat) (x0 : GR) (W : World) (h : GmIn W vt vm ts l) (hD : W.cell? ⟨D, 0, none⟩ = some (.string s)) (hx0 : l[i0]? = some x0) (hs : x0.g.name = s) (hne : ∀ j y, j < i0 → l[j]? = some y → y.g.name ≠ s) :
    Calls Tryd.prog 19 #[vm, .func (.func 20) #[] #[.pointer (some ⟨D, 0, none⟩)]] W (Gives (.int .i64 (i0 : Nat)) W) := by
  have hx := h.row
  obtain ⟨-, a1, c1, rfl, hl1, hm1, -⟩ := hx
  obtain ⟨n, hn⟩ : ∃ n, n = l.length := ⟨_, rfl⟩
  have hn62 : n ≤ 9223372036854775807 := by have : maxLen ≤ 9223372036854775807 := by decide
                                            omega
  have hi0 : i0 < n := by rw [hn]; exact (List.getElem?_eq_some_iff.1 hx0).1
  rw [← hn] at h ⊢
  have H := Lib.hid (And.intro h (And.intro hn (And.intro hx0 (And.intro hs (And.intro hne hD)))))
  clear h hn hl1 hm1 hx0 hs hne hD
  go_enter Tryd.func19, Tryd.ntmps19
  go_wp2_with fail
  go_loopw [8] (fun i wr => ∃ k : Nat, k ≤ i0 ∧ i = .int .i64 k ∧ Below W.heap.size W wr) (fun i _ => i0 - (intOf i).toNat)
  case atStart => exact ⟨0, Nat.zero_le _, rfl, Below.refl _ _⟩
  case round =>
    obtain ⟨k, hk, rfl, hO⟩ := hrel
    obtain ⟨Wr, hWr⟩ : ∃ Wr : World, Wr = wr := ⟨_, rfl⟩
    subst hWr
    have hkn : k < n := by omega
    obtain ⟨x, hx⟩ : ∃ x, l[k]? = some x := ⟨_, List.getElem?_eq_getElem (by rw [← H.out.2.1]; exact hkn)⟩
    have h1 := H.out.1.later hO
    obtain ⟨b3, o3, rfl, -, d0, d1, d2, d3, d4⟩ := gr_cell h1.row hx (by rw [← H.out.2.1]; exact hkn)
    obtain ⟨hp, hc⟩ := h1.each x (List.mem_of_getElem? hx)
    have hd1 := (hO.cell (p := ⟨D, 0, none⟩) (block_lt_of_cell H.out.2.2.2.2.2)).trans H.out.2.2.2.2.2
    have hname : decide (x.g.name = s) = decide (k = i0) := by
      by_cases e : k = i0
      · subst e
        have h2 := H.out.2.2.1
        rw [hx] at h2
        cases h2
        simp [H.out.2.2.2.1]
      · have := H.out.2.2.2.2.1 k x (by omega) hx
        simp [this, e]
    have Hname := Lib.hid hname
    have HO := Lib.hid hO
    clear h1 hx hO hname
    obtain ⟨⟨t, pl, r, wd, cl⟩, xp, xc, xl, xh⟩ := x
    simp only at d0 d1 d2 d3 d4 hp hc Hname
    obtain ⟨-, pa, pc, rfl, -⟩ := id hp
    obtain ⟨-, ca, cc, rfl, -⟩ := id hc
    obtain ⟨np, hnp⟩ : ∃ np, np = pl.length := ⟨_, rfl⟩
    obtain ⟨nc, hnc⟩ : ∃ nc, nc = cl.length := ⟨_, rfl⟩
    rw [← hnp] at d1
    rw [← hnc] at d4
    have Hcall := Lib.hid (find1g_any t s (.slice pa np pc) (.slice ca nc cc) r wd D Wr hd1)
    rw [Hname.out] at Hcall
    clear hp hc hnp hnc hd1
    go_wp2_with fail
    refine Hcall.out.mono ?_
    rintro e w4 ⟨rfl, hb4⟩
    have H4 := Lib.hid (HO.out.trans (hb4.mono HO.out.size))
    clear hb4
    by_cases hki : k = i0
    · subst hki
      simp only [decide_true]
      go_wp2_with fail
      go_ret
      exact ⟨rfl, H4.out⟩
    · simp only [hki, decide_false]
      go_wp2_with fail
      go_roundw
      case rel => exact ⟨k + 1, by omega, by go_num, H4.out⟩
      case measure => simp [intOf]; omega
set_option maxRecDepth 100000 in
set_option maxHeartbeats 1000000 in
theorem findG_any (l : List GR) (vm vt : Value) (ts : List Int) (i0 : Nat) (x0 : GR) (s : ByteArray) (W : World) (h : GmIn W vt vm ts l) (hx0 : l[i0]? = some x0) (hs : x0.g.name = s) (hne : ∀ j y, j < i0 → l[j]? = some y → y.g.name ≠ s) :
    Calls Tryd.prog 8 #[.agg #[vt, vm], .string s] W (Gives (.int .i64 (i0 : Nat)) W) := by
  obtain ⟨W0, hW0⟩ : ∃ W0 : World, W0 = W.alloc (.cells #[vt, vm] 29) := ⟨_, rfl⟩
  obtain ⟨W1, hW1⟩ : ∃ W1 : World, W1 = W0.alloc (.cells #[.string s] 9) := ⟨_, rfl⟩
  obtain ⟨B, hB⟩ : ∃ B, B = W.heap.size := ⟨_, rfl⟩
  have z0 : W0.heap.size = B + 1 := by rw [hW0, hB]; simp
  have hb0 : Below W.heap.size W W0 := by rw [hW0]; exact (Below.refl _ _).alloc (Nat.le_refl _) _
  have hb1 : Below W0.heap.size W0 W1 := by rw [hW1]; exact (Below.refl _ _).alloc (Nat.le_refl _) _
  have hb : Below W.heap.size W W1 := hb0.trans (hb1.mono hb0.size)
  have c1 : W1.cell? ⟨B, 1, none⟩ = some vm := by
    have h0 : W0.cell? ⟨B, 1, none⟩ = some vm := by rw [hW0]; exact World.cell?_alloc_at _ _ _ _ hB
    exact (hb1.cell (p := ⟨B, 1, none⟩) (by show B < _; omega)).trans h0
  have d0 : W1.cell? ⟨B + 1, 0, none⟩ = some (.string s) := by rw [hW1]; exact World.cell?_alloc_at _ _ _ _ z0.symm
  have Hcall := Lib.hid (indexG_any l vm vt ts (B + 1) s i0 x0 W1 (h.later hb) d0 hx0 hs hne)
  have HW := Lib.hid (And.intro hB (And.intro hW0 (And.intro hW1 hb)))
  clear h hb hb0 hb1 hB hW0 hW1 z0 hx0 hs hne
  go_enter Tryd.func8, Tryd.ntmps8
  go_upto_region 1 with (fail)
  rw [← HW.out.1, ← HW.out.2.1, ← HW.out.2.2.1]
  go_wp2_with fail
  refine Hcall.out.mono ?_
  rintro e w2 ⟨rfl, hb2⟩
  have H2 := Lib.hid (HW.out.2.2.2.trans (hb2.mono HW.out.2.2.2.size))
  clear hb2
  go_wp2_with fail
  go_ret
  exact ⟨rfl, H2.out⟩
end Go.Proofs.YtgobcldecokppaaDoor

namespace Go.Proofs.YtgobcldecokppaaDoor
open Go.RowKit Go.Maps

/-- The table of operations, as it is laid. -/
def TabIn (w : World) : Prop := ∀ i : Nat, i < 20 → ∃ s wt wr, w.cell? ⟨0, i * 7, none⟩ = some (.string s) ∧ w.cell? ⟨0, i * 7 + 1, none⟩ = some (.int .i64 wt) ∧ w.cell? ⟨0, i * 7 + 2, none⟩ = some (.bool (hasA i)) ∧
  w.cell? ⟨0, i * 7 + 3, none⟩ = some (.bool (hasB i)) ∧ w.cell? ⟨0, i * 7 + 4, none⟩ = some (.bool (hasC i)) ∧ w.cell? ⟨0, i * 7 + 5, none⟩ = some (.int .i64 (kindN i)) ∧ w.cell? ⟨0, i * 7 + 6, none⟩ = some (.bool wr)
theorem TabIn.later {w w' : World} (h : TabIn w) (hb : Below w.heap.size w w') : TabIn w' := fun i hi => by
  obtain ⟨s, wt, wr, h0, h1, h2, h3, h4, h5, h6⟩ := h i hi
  have k := fun j (v : Value) (e : w.cell? ⟨0, j, none⟩ = some v) => (hb.cell (p := ⟨0, j, none⟩) (block_lt_of_cell e)).trans e
  exact ⟨s, wt, wr, k _ _ h0, k _ _ h1, k _ _ h2, k _ _ h3, k _ _ h4, k _ _ h5, k _ _ h6⟩
theorem kindN_cases (o : Int) : kindN o = 0 ∨ kindN o = 1 ∨ kindN o = 2 ∨ kindN o = 3 ∨ kindN o = 4 := by
  unfold kindN
  repeat' split
  all_goals simp
theorem idx0 (a b c d e f : Value) (w : World) : (Instr.index 100 (.agg #[a, b, c, d, e, f]) (.int .i64 0)).run Tryd.prog w = .ok (.agg #[a, b]) w := by kernel_rfl
theorem idx1 (a b c d e f : Value) (w : World) : (Instr.index 100 (.agg #[a, b, c, d, e, f]) (.int .i64 1)).run Tryd.prog w = .ok (.agg #[c, d]) w := by kernel_rfl
theorem idx2 (a b c d e f : Value) (w : World) : (Instr.index 100 (.agg #[a, b, c, d, e, f]) (.int .i64 2)).run Tryd.prog w = .ok (.agg #[e, f]) w := by kernel_rfl
set_option maxRecDepth 100000 in
set_option maxHeartbeats 4000000 in
theorem instr_any (l : List GR) (vt vm vp : Value) (ts : List Int) (g : GFun) (ca : Option Addr) (cc : Nat) (x : Ins) (W : World) (h : GmIn W vt vm ts l) (hi : InsM (l.map GR.g) g x) (hT : TabIn W) (hr : g.regs ≤ 64) :
    Calls Tryd.prog 18 #[.agg #[vt, vm], .agg #[.string g.name, vp, .int .i64 g.regs, .int .i64 g.words, .slice ca g.code.length cc], .agg #[.int .i64 x.op, .int .i64 x.a, .int .i64 x.b, .int .i64 x.c, .int .i64 x.n]] W (Gives (.int .i64 0) W) := by
  obtain ⟨op, a, b, c, n⟩ := x
  obtain ⟨hop, hia, hib, hic, hn0, hn2, hn3, hn4⟩ := hi
  simp only at hop hia hib hic hn0 hn2 hn3 hn4
  simp only
  obtain ⟨o, rfl⟩ : ∃ o : Nat, op = (o : Int) := ⟨op.toNat, by omega⟩
  have ho : o < 20 := by omega
  obtain ⟨ma, mn, mc, rfl⟩ : ∃ ma mn mc, vm = .slice ma mn mc := by obtain ⟨_, ma, mc, e, _⟩ := h.row; exact ⟨ma, _, mc, e⟩
  have hmn : mn = l.length := by obtain ⟨_, _, _, e, _⟩ := h.row; cases e; rfl
  have hm62 : mn ≤ 9223372036854775807 := by
    obtain ⟨_, _, _, e, h2, h3, _⟩ := h.row
    have : maxLen ≤ 9223372036854775807 := by decide
    cases e; omega
  obtain ⟨rg, hrg⟩ : ∃ rg, rg = g.regs := ⟨_, rfl⟩
  obtain ⟨nc, hnc⟩ : ∃ nc, nc = g.code.length := ⟨_, rfl⟩
  rw [← hnc] at hn2 ⊢
  rw [← hrg] at hr hia hib hic hn4 ⊢
  obtain ⟨bA, hbA⟩ : ∃ z, z = hasA (o : Int) := ⟨_, rfl⟩
  obtain ⟨bB, hbB⟩ : ∃ z, z = hasB (o : Int) := ⟨_, rfl⟩
  obtain ⟨bC, hbC⟩ : ∃ z, z = hasC (o : Int) := ⟨_, rfl⟩
  obtain ⟨kn, hkn⟩ : ∃ z, z = kindN (o : Int) := ⟨_, rfl⟩
  have hkc := kindN_cases (o : Int)
  rw [← hbA] at hia
  rw [← hbB] at hib
  rw [← hbC] at hic
  rw [← hkn] at hn0 hn2 hn3 hn4 hkc
  obtain ⟨W0, hW0⟩ : ∃ w : World, w = W.alloc (.cells #[vt, .slice ma mn mc] 29) := ⟨_, rfl⟩
  obtain ⟨W1, hW1⟩ : ∃ w : World, w = W0.alloc (.cells #[.string g.name, vp, .int .i64 rg, .int .i64 g.words, .slice ca nc cc] 44) := ⟨_, rfl⟩
  obtain ⟨W2, hW2⟩ : ∃ w : World, w = W1.alloc (.cells #[.int .i64 (o : Int), .int .i64 a, .int .i64 b, .int .i64 c, .int .i64 n] 58) := ⟨_, rfl⟩
  obtain ⟨B, hB⟩ : ∃ B, B = W.heap.size := ⟨_, rfl⟩
  have z0 : W0.heap.size = B + 1 := by rw [hW0, hB]; simp
  have z1 : W1.heap.size = B + 1 + 1 := by rw [hW1]; simp [z0]
  have b0 : Below W.heap.size W W0 := by rw [hW0]; exact (Below.refl _ _).alloc (Nat.le_refl _) _
  have b1 : Below W0.heap.size W0 W1 := by rw [hW1]; exact (Below.refl _ _).alloc (Nat.le_refl _) _
  have b2 : Below W1.heap.size W1 W2 := by rw [hW2]; exact (Below.refl _ _).alloc (Nat.le_refl _) _
  have b12 := b1.trans (b2.mono b1.size)
  have b02 : Below W.heap.size W W2 := b0.trans (b12.mono b0.size)
  have m1 : W2.cell? ⟨B, 1, none⟩ = some (.slice ma mn mc) := by
    have h0 : W0.cell? ⟨B, 1, none⟩ = some (.slice ma mn mc) := by rw [hW0]; exact World.cell?_alloc_at _ _ _ _ hB
    exact (b12.cell (p := ⟨B, 1, none⟩) (by show B < _; omega)).trans h0
  have f2 : W2.cell? ⟨B + 1, 2, none⟩ = some (.int .i64 rg) := by
    have h0 : W1.cell? ⟨B + 1, 2, none⟩ = some (.int .i64 rg) := by rw [hW1]; exact World.cell?_alloc_at _ _ _ _ z0.symm
    exact (b2.cell (p := ⟨B + 1, 2, none⟩) (by show B + 1 < _; omega)).trans h0
  have f4 : W2.cell? ⟨B + 1, 4, none⟩ = some (.slice ca nc cc) := by
    have h0 : W1.cell? ⟨B + 1, 4, none⟩ = some (.slice ca nc cc) := by rw [hW1]; exact World.cell?_alloc_at _ _ _ _ z0.symm
    exact (b2.cell (p := ⟨B + 1, 4, none⟩) (by show B + 1 < _; omega)).trans h0
  have x0 : W2.cell? ⟨B + 1 + 1, 0, none⟩ = some (.int .i64 (o : Int)) := by rw [hW2]; exact World.cell?_alloc_at _ _ _ _ z1.symm
  have x1 : W2.cell? ⟨B + 1 + 1, 1, none⟩ = some (.int .i64 a) := by rw [hW2]; exact World.cell?_alloc_at _ _ _ _ z1.symm
  have x2 : W2.cell? ⟨B + 1 + 1, 2, none⟩ = some (.int .i64 b) := by rw [hW2]; exact World.cell?_alloc_at _ _ _ _ z1.symm
  have x3 : W2.cell? ⟨B + 1 + 1, 3, none⟩ = some (.int .i64 c) := by rw [hW2]; exact World.cell?_alloc_at _ _ _ _ z1.symm
  have x4 : W2.cell? ⟨B + 1 + 1, 4, none⟩ = some (.int .i64 n) := by rw [hW2]; exact World.cell?_alloc_at _ _ _ _ z1.symm
  obtain ⟨s, wt, wr, t0, t1, t2, t3, t4, t5, t6⟩ := (hT.later b02) o ho
  rw [← hbA] at t2
  rw [← hbB] at t3
  rw [← hbC] at t4
  rw [← hkn] at t5
  obtain ⟨W3, hW3⟩ : ∃ w : World, w = W2.alloc (.cells #[.string s, .int .i64 wt, .bool bA, .bool bB, .bool bC, .int .i64 kn, .bool wr] 97) := ⟨_, rfl⟩
  obtain ⟨D, hD⟩ : ∃ D, D = W2.heap.size := ⟨_, rfl⟩
  have b3 : Below W2.heap.size W2 W3 := by rw [hW3]; exact (Below.refl _ _).alloc (Nat.le_refl _) _
  have r2 : W3.cell? ⟨D, 2, none⟩ = some (.bool bA) := by rw [hW3]; exact World.cell?_alloc_at _ _ _ _ hD
  have r3 : W3.cell? ⟨D, 3, none⟩ = some (.bool bB) := by rw [hW3]; exact World.cell?_alloc_at _ _ _ _ hD
  have r4 : W3.cell? ⟨D, 4, none⟩ = some (.bool bC) := by rw [hW3]; exact World.cell?_alloc_at _ _ _ _ hD
  have r5 : W3.cell? ⟨D, 5, none⟩ = some (.int .i64 kn) := by rw [hW3]; exact World.cell?_alloc_at _ _ _ _ hD
  have k1 := (b3.cell (p := ⟨B, 1, none⟩) (block_lt_of_cell m1)).trans m1
  have k2 := (b3.cell (p := ⟨B + 1, 2, none⟩) (block_lt_of_cell f2)).trans f2
  have k4 := (b3.cell (p := ⟨B + 1, 4, none⟩) (block_lt_of_cell f4)).trans f4
  have y1 := (b3.cell (p := ⟨B + 1 + 1, 1, none⟩) (block_lt_of_cell x1)).trans x1
  have y2 := (b3.cell (p := ⟨B + 1 + 1, 2, none⟩) (block_lt_of_cell x2)).trans x2
  have y3 := (b3.cell (p := ⟨B + 1 + 1, 3, none⟩) (block_lt_of_cell x3)).trans x3
  have y4 := (b3.cell (p := ⟨B + 1 + 1, 4, none⟩) (block_lt_of_cell x4)).trans x4
  have b03 : Below W.heap.size W W3 := b02.trans (b3.mono b02.size)
  have H3 := Lib.hid (And.intro b03 (h.later b03))
  have HW := Lib.hid (And.intro hB (And.intro hW0 (And.intro hW1 (And.intro hW2 (And.intro hD hW3)))))
  have Hmn := Lib.hid hmn
  have Hop := Lib.hid hop
  have HA := Lib.hid (And.intro hia (And.intro hib hic))
  have HN := Lib.hid (And.intro hn0 (And.intro hn2 (And.intro hn3 hn4)))
  have Hkc := Lib.hid hkc
  have HB0 : Hid (kn = 4 → 0 ≤ b) := fun e => by
    have h19 : (o : Int) = 19 := by
      rw [e] at hkn
      unfold kindN at hkn
      split at hkn
      · omega
      split at hkn
      · omega
      split at hkn
      · omega
      split at hkn
      · assumption
      · omega
    have h1 : bB = true := by rw [hbB, h19]; decide
    exact (hib.1 h1).1
  have he0 := idx0
  have he1 := idx1
  have he2 := idx2
  clear h hT hB hW0 hW1 hW2 hD hW3 z0 z1 b0 b1 b2 b12 b02 b3 b03 hbA hbB hbC hkn hrg hnc hmn hop hia hib hic hn0 hn2 hn3 hn4 hkc m1 f2 f4
  go_enter Tryd.func18, Tryd.ntmps18
  go_upto_region 1 with (fail)
  rw [← HW.out.1, ← HW.out.2.1, ← HW.out.2.2.1, ← HW.out.2.2.2.1]
  go_wp2_with fail
  refine (known_code_any _ _ Hop.out).mono ?_
  rintro e w ⟨rfl, hw⟩
  rw [← hw]
  clear hw
  go_upto_region 4 with (fail)
  rw [← HW.out.2.2.2.2.1, ← HW.out.2.2.2.2.2]
  clear x0 x1 x2 x3 x4 t0 t1 t2 t3 t4 t5 t6
  go_wp2_with fail
  go_loopw [34] (fun i wr => ∃ k : Nat, k ≤ 3 ∧ i = .int .i64 k ∧ Below W3.heap.size W3 wr) (fun i _ => 3 - (intOf i).toNat)
  case atStart => exact ⟨0, Nat.zero_le _, rfl, Below.refl _ _⟩
  case round =>
    obtain ⟨k, hk, rfl, hO⟩ := hrel
    obtain ⟨Wr, hWr⟩ : ∃ Wr : World, Wr = wr := ⟨_, rfl⟩
    subst hWr
    have g1 := (hO.cell (p := ⟨B, 1, none⟩) (block_lt_of_cell k1)).trans k1
    have g2 := (hO.cell (p := ⟨B + 1, 2, none⟩) (block_lt_of_cell k2)).trans k2
    have g4 := (hO.cell (p := ⟨B + 1, 4, none⟩) (block_lt_of_cell k4)).trans k4
    have q2 := (hO.cell (p := ⟨B + 1 + 1, 2, none⟩) (block_lt_of_cell y2)).trans y2
    have q4 := (hO.cell (p := ⟨B + 1 + 1, 4, none⟩) (block_lt_of_cell y4)).trans y4
    have s5 := (hO.cell (p := ⟨D, 5, none⟩) (block_lt_of_cell r5)).trans r5
    by_cases hk3 : k = 3
    · subst hk3
      have HO := Lib.hid (H3.out.1.trans (hO.mono H3.out.1.size))
      have Hm := Lib.hid (H3.out.2.later hO)
      clear hO hk k1 k2 k4 y1 y2 y3 y4 r2 r3 r4 r5
      rcases Hkc.out with rfl | rfl | rfl | rfl | rfl
      · have hn := HN.out.1 rfl
        subst hn
        go_wp2_with fail
        go_ret
        exact ⟨rfl, HO.out⟩
      · go_wp2_with fail
        go_ret
        exact ⟨rfl, HO.out⟩
      · obtain ⟨u1, u2⟩ := HN.out.2.1 rfl
        go_wp2_with fail
        go_ret
        exact ⟨rfl, HO.out⟩
      · obtain ⟨u1, u2⟩ := HN.out.2.2.1 rfl
        go_wp2_with fail
        go_ret
        exact ⟨rfl, HO.out⟩
      · obtain ⟨j, hg, rfl, hj, hle⟩ := HN.out.2.2.2 rfl
        obtain ⟨x, hx, hxg⟩ : ∃ x, l[j]? = some x ∧ x.g = hg := by
          rw [List.getElem?_map] at hj
          cases hx : l[j]? with
          | none => rw [hx] at hj; cases hj
          | some x => rw [hx] at hj; exact ⟨x, rfl, by simpa using hj⟩
        have hjm : j < mn := by rw [Hmn.out]; exact (List.getElem?_eq_some_iff.1 hx).1
        obtain ⟨b3, o3, hma, -, -, d1, -, -, -⟩ := gr_cell Hm.out.row hx (by rw [← Hmn.out]; exact hjm)
        subst hma
        obtain ⟨-, pa, pc, hvp, -, hpl, -⟩ := (Hm.out.each x (List.mem_of_getElem? hx)).1
        rw [hvp, hxg] at d1
        have hB0 := HB0.out rfl
        obtain ⟨np, hnp⟩ : ∃ np, np = hg.params.length := ⟨_, rfl⟩
        rw [← hnp] at d1 hle
        clear hx hxg hj hvp hnp hpl
        have hw1 : -9223372036854775808 ≤ b + (np : Int) ∧ b + (np : Int) ≤ 9223372036854775807 := by omega
        have hw2 : IntKind.i64.wrap (b + (np : Int)) = b + (np : Int) := Go.IntWalk.i64_in _ hw1
        have hw3 : ¬ (mn ≤ j) := by omega
        have hw4 : ¬ ((j : Int) < 0) := by omega
        go_wp2_with (go_quiet (fail))
        go_ret
        exact ⟨rfl, by first | exact HO.out | exact below_drewN HO.out _⟩
    · have HO := Lib.hid hO
      have hb : k = 0 ∨ k = 1 ∨ k = 2 := by omega
      rcases hb with rfl | rfl | rfl
      · cases bA
        · have e1 := HA.out.1.2 rfl
          subst e1
          clear hk hk3 hO
          go_wp2_with fail
          go_roundw
          case rel => exact ⟨1, by omega, by go_num, HO.out.alloc HO.out.size _⟩
          case measure => simp [intOf]
        · obtain ⟨e1, e2⟩ := HA.out.1.1 rfl
          obtain ⟨V, hV⟩ : ∃ V, V = Wr.alloc (.cells #[.bool true, .int .i64 a] 99) := ⟨_, rfl⟩
          obtain ⟨E, hE⟩ : ∃ E, E = Wr.heap.size := ⟨_, rfl⟩
          have v0 : V.cell? ⟨E, 0, none⟩ = some (.bool true) := by rw [hV]; exact World.cell?_alloc_at _ _ _ _ hE
          have v1 : V.cell? ⟨E, 1, none⟩ = some (.int .i64 a) := by rw [hV]; exact World.cell?_alloc_at _ _ _ _ hE
          have hbV : Below Wr.heap.size Wr V := by rw [hV]; exact (Below.refl _ _).alloc (Nat.le_refl _) _
          have v2 := (hbV.cell (p := ⟨B + 1, 2, none⟩) (block_lt_of_cell g2)).trans g2
          have HV := Lib.hid (And.intro hE (And.intro hV (hO.trans (hbV.mono hO.size))))
          clear hk hk3 hO hV hE hbV
          go_upto_region 7 with (fail)
          rw [← HV.out.1, ← HV.out.2.1]
          go_wp2_with fail
          go_roundw
          case rel => exact ⟨1, by omega, by go_num, HV.out.2.2⟩
          case measure => simp [intOf]
      · cases bB
        · have e1 := HA.out.2.1.2 rfl
          subst e1
          clear hk hk3 hO
          go_wp2_with fail
          go_roundw
          case rel => exact ⟨2, by omega, by go_num, HO.out.alloc HO.out.size _⟩
          case measure => simp [intOf]
        · obtain ⟨e1, e2⟩ := HA.out.2.1.1 rfl
          obtain ⟨V, hV⟩ : ∃ V, V = Wr.alloc (.cells #[.bool true, .int .i64 b] 99) := ⟨_, rfl⟩
          obtain ⟨E, hE⟩ : ∃ E, E = Wr.heap.size := ⟨_, rfl⟩
          have v0 : V.cell? ⟨E, 0, none⟩ = some (.bool true) := by rw [hV]; exact World.cell?_alloc_at _ _ _ _ hE
          have v1 : V.cell? ⟨E, 1, none⟩ = some (.int .i64 b) := by rw [hV]; exact World.cell?_alloc_at _ _ _ _ hE
          have hbV : Below Wr.heap.size Wr V := by rw [hV]; exact (Below.refl _ _).alloc (Nat.le_refl _) _
          have v2 := (hbV.cell (p := ⟨B + 1, 2, none⟩) (block_lt_of_cell g2)).trans g2
          have HV := Lib.hid (And.intro hE (And.intro hV (hO.trans (hbV.mono hO.size))))
          clear hk hk3 hO hV hE hbV
          go_upto_region 7 with (fail)
          rw [← HV.out.1, ← HV.out.2.1]
          go_wp2_with fail
          go_roundw
          case rel => exact ⟨2, by omega, by go_num, HV.out.2.2⟩
          case measure => simp [intOf]
      · cases bC
        · have e1 := HA.out.2.2.2 rfl
          subst e1
          clear hk hk3 hO
          go_wp2_with fail
          go_roundw
          case rel => exact ⟨3, by omega, by go_num, HO.out.alloc HO.out.size _⟩
          case measure => simp [intOf]
        · obtain ⟨e1, e2⟩ := HA.out.2.2.1 rfl
          obtain ⟨V, hV⟩ : ∃ V, V = Wr.alloc (.cells #[.bool true, .int .i64 c] 99) := ⟨_, rfl⟩
          obtain ⟨E, hE⟩ : ∃ E, E = Wr.heap.size := ⟨_, rfl⟩
          have v0 : V.cell? ⟨E, 0, none⟩ = some (.bool true) := by rw [hV]; exact World.cell?_alloc_at _ _ _ _ hE
          have v1 : V.cell? ⟨E, 1, none⟩ = some (.int .i64 c) := by rw [hV]; exact World.cell?_alloc_at _ _ _ _ hE
          have hbV : Below Wr.heap.size Wr V := by rw [hV]; exact (Below.refl _ _).alloc (Nat.le_refl _) _
          have v2 := (hbV.cell (p := ⟨B + 1, 2, none⟩) (block_lt_of_cell g2)).trans g2
          have HV := Lib.hid (And.intro hE (And.intro hV (hO.trans (hbV.mono hO.size))))
          clear hk hk3 hO hV hE hbV
          go_upto_region 7 with (fail)
          rw [← HV.out.1, ← HV.out.2.1]
          go_wp2_with fail
          go_roundw
          case rel => exact ⟨3, by omega, by go_num, HV.out.2.2⟩
          case measure => simp [intOf]
end Go.Proofs.YtgobcldecokppaaDoor
