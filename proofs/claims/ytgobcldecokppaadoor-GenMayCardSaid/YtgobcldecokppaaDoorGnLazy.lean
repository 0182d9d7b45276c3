/- gen: what is worked out only if it is wanted. -/
import Derived.Test.YtgobcldecokppaaDoorGnWord
namespace Go.Proofs.YtgobcldecokppaaDoor
open Go.RowKit Go.Maps

theorem Ex.gn_eq (V : GEnv) (F : ByteArray → Int) (x : Ex) : x.gn V F = gnOf V F x.kind x.n x.name (Ex.gns V F x.args) := by cases x; simp only [Ex.gn, Ex.kind, Ex.n, Ex.name, Ex.args]
theorem gns_at {V : GEnv} {F : ByteArray → Int} {l : List Ex} {i : Nat} {y : Ex} (h : l[i]? = some y) (d : Gn) : (Ex.gns V F l).getD i d = y.gn V F := by
  induction l generalizing i with
  | nil => simp at h
  | cons z l ih =>
    cases i with
    | zero => simp at h; subst h; simp [Ex.gns]
    | succ i => simpa [Ex.gns] using ih (by simpa using h)
theorem gnBit_len (t : Int) : (gnBit t).length = 2 := rfl
theorem Later.cells {w : World} {m : Mk} {bm ba i : Nat} (h : Later w m (laterV bm ba) i) : w.cell? ⟨bm, 0, none⟩ = some (ptrV m.b) ∧ w.cell? ⟨ba, 0, none⟩ = some (.int .i64 (i : Int)) := by
  obtain ⟨bm', ba', e, h1, h2, _⟩ := h
  simp only [laterV, Value.func.injEq, Array.mk.injEq, List.cons.injEq, Value.pointer.injEq, Option.some.injEq, Addr.mk.injEq, and_true, true_and] at e
  obtain ⟨rfl, rfl⟩ := e
  exact ⟨h1, h2⟩
theorem lead_add (s : GS) (x : Ins) (L : List Ins) : ((s.add [x]).add L).lead s.code.length = (s.add [{ x with n := ((s.code.length + 1 + L.length : Nat) : Int) }]).add L := by
  simp only [GS.lead, GS.add, List.append_assoc, List.singleton_append, getE_mid, regsOf, List.foldl_cons, List.foldl_nil]
  simp only [List.length_append, List.length_cons]
  rw [show s.code.length + (L.length + 1) = s.code.length + 1 + L.length by omega]
/-- An expression in memory that was there ahead of the walk: its code is laid. -/
def GxFor (w0 : World) (x : Ex) (v : Value) : Prop := ∀ (W : World) (B : Nat) (m : Mk) (F : ByteArray → Int) (N : Nat) (s : GS) (t : Int), Below w0.heap.size w0 W → w0.heap.size ≤ B → MkAt W B m F N s → 0 ≤ t → t + (x.total : Int) ≤ 1000000 → s.code.length + (x.gn s.V F s.code.length t).length ≤ 999999999000 →
  Calls Tryd.prog 22 #[ptrV m.b, exVal x v, .int .i64 t] W (fun E W' => E = .returned (.tuple #[]) ∧ ∃ m', MkAt W' B m' F N (s.add (x.gn s.V F s.code.length t)) ∧ GStep W m W' m')
theorem total_at {l : List Ex} {i : Nat} {y : Ex} (h : l[i]? = some y) : y.total ≤ Ex.totals l := by
  induction l generalizing i with
  | nil => simp at h
  | cons z l ih =>
    simp only [Ex.totals]
    cases i with
    | zero => simp at h; subst h; omega
    | succ i => have := ih (by simpa using h); omega
theorem gn_and {V : GEnv} {F : ByteArray → Int} {x y0 y1 : Ex} (hk : x.kind = 18) (h0 : x.args[0]? = some y0) (h1 : x.args[1]? = some y1) (p : Nat) (t : Int) : x.gn V F p t =
    y0.gn V F p t ++ [⟨16, t, 0, 0, ((p + (y0.gn V F p t).length + 1 + (y1.gn V F (p + (y0.gn V F p t).length + 1) t).length + 2 : Nat) : Int)⟩] ++ y1.gn V F (p + (y0.gn V F p t).length + 1) t ++ gnBit t := by
  rw [Ex.gn_eq]
  simp only [gnOf, hk, gns_at h0, gns_at h1]
  rfl
theorem gn_or {V : GEnv} {F : ByteArray → Int} {x y0 y1 : Ex} (hk : x.kind = 19) (h0 : x.args[0]? = some y0) (h1 : x.args[1]? = some y1) (p : Nat) (t : Int) : x.gn V F p t =
    y0.gn V F p t ++ gnBit t ++ [⟨15, t, 0, 0, ((p + (y0.gn V F p t).length + 3 + (y1.gn V F (p + (y0.gn V F p t).length + 3) t).length + 2 : Nat) : Int)⟩] ++ y1.gn V F (p + (y0.gn V F p t).length + 3) t ++ gnBit t := by
  rw [Ex.gn_eq]
  simp only [gnOf, hk, gns_at h0, gns_at h1]
  rfl
set_option maxRecDepth 100000 in
set_option maxHeartbeats 4000000 in
theorem land_any (x : Ex) (hk : x.kind = 18) (w0 : World) (ad : Option Addr) (k cap : Nat) (vs : Nat → Value) (hkl : k = x.args.length) (h2 : 2 ≤ k) (hrow : RowOf w0 (.slice ad k cap) k 4 (fun b o i => ∀ y, x.args[i]? = some y → ExAt w0 b o y (vs i)))
    (hih : ∀ (i : Nat) y, x.args[i]? = some y → GxFor w0 y (vs i)) (W : World) (B : Nat) (m : Mk) (F : ByteArray → Int) (N : Nat) (s : GS) (t : Int) (hB : Below w0.heap.size w0 W) (hwB : w0.heap.size ≤ B) (h : MkAt W B m F N s) (ht0 : 0 ≤ t) (ht : t + (x.total : Int) ≤ 1000000) (hl : s.code.length + (x.gn s.V F s.code.length t).length ≤ 999999999000) :
    Calls Tryd.prog 32 #[ptrV m.b, exVal x (.slice ad k cap), .int .i64 t] W (fun E W' => E = .returned (.tuple #[]) ∧ ∃ m', MkAt W' B m' F N (s.add (x.gn s.V F s.code.length t)) ∧ GStep W m W' m') := by
  obtain ⟨y0, hy0⟩ : ∃ y, x.args[0]? = some y := ⟨_, List.getElem?_eq_getElem (by omega)⟩
  obtain ⟨y1, hy1⟩ : ∃ y, x.args[1]? = some y := ⟨_, List.getElem?_eq_getElem (by omega)⟩
  obtain ⟨b', off, rfl, hb', hP0⟩ := hrow.at (i := 0) (by omega)
  obtain ⟨b2, off2, he2, _, hP1⟩ := hrow.at (i := 1) (by omega)
  cases he2
  have ht1 := total_at hy0
  have ht2 := total_at hy1
  have htx := x.total_eq
  obtain ⟨L0, hL0⟩ : ∃ L, L = y0.gn s.V F s.code.length t := ⟨_, rfl⟩
  obtain ⟨L1, hL1⟩ : ∃ L, L = y1.gn s.V F (s.code.length + L0.length + 1) t := ⟨_, rfl⟩
  have hgn := gn_and (V := s.V) (F := F) hk hy0 hy1 s.code.length t
  rw [← hL0, ← hL1] at hgn
  rw [hgn] at hl ⊢
  simp only [List.length_append, List.length_cons, List.length_nil, gnBit_len] at hl
  obtain ⟨X, hX⟩ : ∃ X, X = W.heap.size := ⟨_, rfl⟩
  obtain ⟨W1, hW1⟩ : ∃ W1, W1 = W.alloc (.cells #[.int .i64 x.kind, .int .i64 x.n, .string x.name, .slice (some ⟨b', off, none⟩) k cap] 53) := ⟨_, rfl⟩
  have hb1 : Below W.heap.size W W1 := by rw [hW1]; exact (Below.refl _ _).alloc (Nat.le_refl _) _
  have x0 : W1.cell? ⟨X, 0, none⟩ = some (.int .i64 x.kind) := by rw [hW1, hX]; exact World.cell?_alloc_at _ _ _ _ rfl
  have x3 : W1.cell? ⟨X, 3, none⟩ = some (.slice (some ⟨b', off, none⟩) k cap) := by rw [hW1, hX]; exact World.cell?_alloc_at _ _ _ _ rfl
  have qX := block_lt_of_cell x0
  have HmT : Hid (¬ m.T X) := fun e => by have := h.inT X e; omega
  have HB1 : Hid (Below w0.heap.size w0 W1) := hB.trans (hb1.mono hB.size)
  obtain ⟨i0, i1, i2, i3⟩ := (hP0 y0 hy0).later HB1.out hb'
  simp only [Nat.zero_mul, Nat.add_zero] at i0 i1 i2 i3
  have hlen0 : 0 < k := by omega
  have hlen1 : 1 < k := by omega
  have hwt : wrap64 t = t := by unfold wrap64; omega
  have H1 := Lib.hid (h.later hb1)
  have Hy := Lib.hid (And.intro (hih 0 y0 hy0) (And.intro (hih 1 y1 hy1) (hP1 y1 hy1)))
  have Hl := Lib.hid (And.intro hl (And.intro hL0 (And.intro hL1 (And.intro hwB hb'))))
  have HW := Lib.hid (And.intro hW1 (And.intro hX hb1))
  have Ht := Lib.hid (show 0 ≤ t ∧ t + (y0.total : Int) ≤ 1000000 ∧ t + (y1.total : Int) ≤ 1000000 ∧ t ≤ 1000000 by omega)
  have Hx := Lib.hid (And.intro x0 x3)
  have Hmlo := Lib.hid h.low
  have hkq : (x.kind == 19) = false := by simp [hk]
  clear hrow hih hB hwB h ht0 ht hl hkl h2 hP0 hP1 hb' ht1 ht2 htx hL0 hL1 hgn hX hW1 hb1 hk hy0 hy1
  unfold exVal
  go_enter_defers Tryd.func32, Tryd.ntmps32
  go_upto_region 1 with (fail)
  rw [← HW.out.1, ← HW.out.2.1]
  go_wp2_with fail
  have hp := Hy.out.1 W1 B m F N s t HB1.out Hl.out.2.2.2.1 H1.out Ht.out.1 Ht.out.2.1 (by rw [← Hl.out.2.1]; have := Hl.out.1; omega)
  rw [← Hl.out.2.1] at hp
  unfold exVal at hp
  refine hp.mono ?_
  rintro E w2 ⟨rfl, m2, hM2, hG2⟩
  clear hp i0 i1 i2 i3
  have x02 := (hG2.cell (p := ⟨X, 0, none⟩) qX HmT.out).trans x0
  have x32 := (hG2.cell (p := ⟨X, 3, none⟩) qX HmT.out).trans x3
  have HX2 := Lib.hid (And.intro (hG2.block qX HmT.out).2 (Nat.lt_of_lt_of_le qX hG2.oth.size))
  have H2 := Lib.hid (And.intro hM2 (And.intro hG2 (And.intro x02 x32)))
  clear hM2 hG2 x0 x3
  go_wp2_with fail
  obtain ⟨s2, hs2⟩ : ∃ s2, s2 = s.add (L0) := ⟨_, rfl⟩
  have hV2 : s2.V = s.V := by rw [hs2]; rfl
  have hc2 : s2.code.length = s.code.length + L0.length + 0 := by rw [hs2, GS.add_len]; omega
  have hp := later_any 16 t 0 ⟨⟨Ht.out.1, by have := Ht.out.2.2.2; omega⟩, zero12⟩ w2 B m2 F N s2 (by rw [hs2]; exact H2.out.1) (by rw [hc2]; have := Hl.out.1; omega)
  rw [H2.out.2.1.b] at hp
  refine hp.mono ?_
  rintro E w3 ⟨fv, rfl, m3, hM3, hG3, bm, ba, rfl, hlt⟩
  clear hp
  have HL3 : Hid (Later w3 m3 (laterV bm ba) s2.code.length) := ⟨bm, ba, rfl, hlt⟩
  unfold laterV
  have x33 := (hG3.cell (p := ⟨X, 3, none⟩) HX2.out.2 HX2.out.1).trans x32
  have H3 := Lib.hid (And.intro hM3 (H2.out.2.1.trans hG3))
  have HB3 : Hid (Below w0.heap.size w0 w3) := H3.out.2.below HB1.out fun k e => Nat.le_trans Hl.out.2.2.2.1 (Hmlo.out k e)
  obtain ⟨i0, i1, i2, i3⟩ := Hy.out.2.2.later HB3.out Hl.out.2.2.2.2
  simp only [Nat.one_mul] at i0 i1 i2 i3
  have Hs2 := Lib.hid (And.intro hs2 (And.intro hV2 hc2))
  clear hM3 hG3 hlt x02 x32 hs2 hV2 hc2
  go_wp2_with fail
  have hp := Hy.out.2.1 w3 B m3 F N _ t HB3.out Hl.out.2.2.2.1 H3.out.1 Ht.out.1 Ht.out.2.2.1 (by rw [GS.add_len, show (s2.add [⟨16, t, 0, 0, 0⟩]).V = s.V from Hs2.out.2.1, Hs2.out.2.2]; simp only [List.length_cons, List.length_nil]; rw [show s.code.length + L0.length + 0 + (0 + 1) = s.code.length + L0.length + 1 by omega, ← Hl.out.2.2.1]; have := Hl.out.1; omega)
  rw [H3.out.2.b, GS.add_len, show (s2.add [⟨16, t, 0, 0, 0⟩]).V = s.V from Hs2.out.2.1, Hs2.out.2.2] at hp
  simp only [List.length_cons, List.length_nil] at hp
  rw [show s.code.length + L0.length + 0 + (0 + 1) = s.code.length + L0.length + 1 by omega, ← Hl.out.2.2.1] at hp
  unfold exVal at hp
  refine hp.mono ?_
  rintro E w4 ⟨rfl, m4, hM4, hG4⟩
  clear hp i0 i1 i2 i3 x33
  have H4 := Lib.hid (And.intro hM4 (And.intro (H3.out.2.trans hG4) (HL3.out.step hG4)))
  clear hM4 hG4
  go_wp2_with fail
  have hp := bit_any t ⟨Ht.out.1, Ht.out.2.2.2⟩ w4 B m4 F N _ H4.out.1 (by simp only [GS.add_len, List.length_cons, List.length_nil]; rw [Hs2.out.2.2]; have := Hl.out.1; omega)
  rw [H4.out.2.1.b, GS.add_add] at hp
  refine hp.mono ?_
  rintro E w5 ⟨rfl, m5, hM5, hG5⟩
  clear hp
  have H5 := Lib.hid (And.intro hM5 (And.intro (H4.out.2.1.trans hG5) (H4.out.2.2.step hG5)))
  clear hM5 hG5
  go_wp2_with fail
  have hcl := H5.out.2.2.cells
  have hln : s2.code.length < (((s2.add [⟨16, t, 0, 0, 0⟩]).add (L1 ++ gnBit t))).code.length := by simp only [GS.add_len, List.length_append, List.length_cons, List.length_nil]; omega
  have hll : (((s2.add [⟨16, t, 0, 0, 0⟩]).add (L1 ++ gnBit t))).code.length ≤ 1000000000000 := by simp only [GS.add_len, List.length_append, List.length_cons, List.length_nil, gnBit_len]; rw [Hs2.out.2.2]; have := Hl.out.1; omega
  refine leaves_cons (f := 44) (args := #[.pointer (some ⟨bm, 0, none⟩), .pointer (some ⟨ba, 0, none⟩)]) (by simp) (by simp [go_sem]) ?_
  refine (patchD_any .returning bm ba s2.code.length w5 B m5 F N _ H5.out.1 hln hll hcl.1 hcl.2).mono ?_
  rintro E u' w6 ⟨rfl, rfl, hM6, hG6⟩
  refine ⟨_, results_none rfl _ _ _, rfl, m5, ?_, (GStep.of_below m HW.out.2.2).trans (H5.out.2.1.trans hG6)⟩
  rw [lead_add, Hs2.out.2.2, Hs2.out.1, GS.add_add, GS.add_add] at hM6
  simp only [List.length_append, gnBit_len] at hM6
  rw [show s.code.length + L0.length + 0 + 1 + (L1.length + 2) = s.code.length + L0.length + 1 + L1.length + 2 by omega] at hM6
  simpa only [List.append_assoc] using hM6
set_option maxRecDepth 100000 in
set_option maxHeartbeats 4000000 in
theorem lor_any (x : Ex) (hk : x.kind = 19) (w0 : World) (ad : Option Addr) (k cap : Nat) (vs : Nat → Value) (hkl : k = x.args.length) (h2 : 2 ≤ k) (hrow : RowOf w0 (.slice ad k cap) k 4 (fun b o i => ∀ y, x.args[i]? = some y → ExAt w0 b o y (vs i)))
    (hih : ∀ (i : Nat) y, x.args[i]? = some y → GxFor w0 y (vs i)) (W : World) (B : Nat) (m : Mk) (F : ByteArray → Int) (N : Nat) (s : GS) (t : Int) (hB : Below w0.heap.size w0 W) (hwB : w0.heap.size ≤ B) (h : MkAt W B m F N s) (ht0 : 0 ≤ t) (ht : t + (x.total : Int) ≤ 1000000) (hl : s.code.length + (x.gn s.V F s.code.length t).length ≤ 999999999000) :
    Calls Tryd.prog 32 #[ptrV m.b, exVal x (.slice ad k cap), .int .i64 t] W (fun E W' => E = .returned (.tuple #[]) ∧ ∃ m', MkAt W' B m' F N (s.add (x.gn s.V F s.code.length t)) ∧ GStep W m W' m') := by
  obtain ⟨y0, hy0⟩ : ∃ y, x.args[0]? = some y := ⟨_, List.getElem?_eq_getElem (by omega)⟩
  obtain ⟨y1, hy1⟩ : ∃ y, x.args[1]? = some y := ⟨_, List.getElem?_eq_getElem (by omega)⟩
  obtain ⟨b', off, rfl, hb', hP0⟩ := hrow.at (i := 0) (by omega)
  obtain ⟨b2, off2, he2, _, hP1⟩ := hrow.at (i := 1) (by omega)
  cases he2
  have ht1 := total_at hy0
  have ht2 := total_at hy1
  have htx := x.total_eq
  obtain ⟨L0, hL0⟩ : ∃ L, L = y0.gn s.V F s.code.length t := ⟨_, rfl⟩
  obtain ⟨L1, hL1⟩ : ∃ L, L = y1.gn s.V F (s.code.length + L0.length + 3) t := ⟨_, rfl⟩
  have hgn := gn_or (V := s.V) (F := F) hk hy0 hy1 s.code.length t
  rw [← hL0, ← hL1] at hgn
  rw [hgn] at hl ⊢
  simp only [List.length_append, List.length_cons, List.length_nil, gnBit_len] at hl
  obtain ⟨X, hX⟩ : ∃ X, X = W.heap.size := ⟨_, rfl⟩
  obtain ⟨W1, hW1⟩ : ∃ W1, W1 = W.alloc (.cells #[.int .i64 x.kind, .int .i64 x.n, .string x.name, .slice (some ⟨b', off, none⟩) k cap] 53) := ⟨_, rfl⟩
  have hb1 : Below W.heap.size W W1 := by rw [hW1]; exact (Below.refl _ _).alloc (Nat.le_refl _) _
  have x0 : W1.cell? ⟨X, 0, none⟩ = some (.int .i64 x.kind) := by rw [hW1, hX]; exact World.cell?_alloc_at _ _ _ _ rfl
  have x3 : W1.cell? ⟨X, 3, none⟩ = some (.slice (some ⟨b', off, none⟩) k cap) := by rw [hW1, hX]; exact World.cell?_alloc_at _ _ _ _ rfl
  have qX := block_lt_of_cell x0
  have HmT : Hid (¬ m.T X) := fun e => by have := h.inT X e; omega
  have HB1 : Hid (Below w0.heap.size w0 W1) := hB.trans (hb1.mono hB.size)
  obtain ⟨i0, i1, i2, i3⟩ := (hP0 y0 hy0).later HB1.out hb'
  simp only [Nat.zero_mul, Nat.add_zero] at i0 i1 i2 i3
  have hlen0 : 0 < k := by omega
  have hlen1 : 1 < k := by omega
  have hwt : wrap64 t = t := by unfold wrap64; omega
  have H1 := Lib.hid (h.later hb1)
  have Hy := Lib.hid (And.intro (hih 0 y0 hy0) (And.intro (hih 1 y1 hy1) (hP1 y1 hy1)))
  have Hl := Lib.hid (And.intro hl (And.intro hL0 (And.intro hL1 (And.intro hwB hb'))))
  have HW := Lib.hid (And.intro hW1 (And.intro hX hb1))
  have Ht := Lib.hid (show 0 ≤ t ∧ t + (y0.total : Int) ≤ 1000000 ∧ t + (y1.total : Int) ≤ 1000000 ∧ t ≤ 1000000 by omega)
  have Hx := Lib.hid (And.intro x0 x3)
  have Hmlo := Lib.hid h.low
  have hkq : (x.kind == 19) = true := by simp [hk]
  clear hrow hih hB hwB h ht0 ht hl hkl h2 hP0 hP1 hb' ht1 ht2 htx hL0 hL1 hgn hX hW1 hb1 hk hy0 hy1
  unfold exVal
  go_enter_defers Tryd.func32, Tryd.ntmps32
  go_upto_region 1 with (fail)
  rw [← HW.out.1, ← HW.out.2.1]
  go_wp2_with fail
  have hp := Hy.out.1 W1 B m F N s t HB1.out Hl.out.2.2.2.1 H1.out Ht.out.1 Ht.out.2.1 (by rw [← Hl.out.2.1]; have := Hl.out.1; omega)
  rw [← Hl.out.2.1] at hp
  unfold exVal at hp
  refine hp.mono ?_
  rintro E w2 ⟨rfl, m2, hM2, hG2⟩
  clear hp i0 i1 i2 i3
  have x02 := (hG2.cell (p := ⟨X, 0, none⟩) qX HmT.out).trans x0
  have x32 := (hG2.cell (p := ⟨X, 3, none⟩) qX HmT.out).trans x3
  have HX2 := Lib.hid (And.intro (hG2.block qX HmT.out).2 (Nat.lt_of_lt_of_le qX hG2.oth.size))
  have H2 := Lib.hid (And.intro hM2 (And.intro hG2 (And.intro x02 x32)))
  clear hM2 hG2 x0 x3
  go_wp2_with fail
  have hp := bit_any t ⟨Ht.out.1, Ht.out.2.2.2⟩ w2 B m2 F N _ H2.out.1 (by rw [GS.add_len]; have := Hl.out.1; omega)
  rw [H2.out.2.1.b, GS.add_add] at hp
  refine hp.mono ?_
  rintro E w2b ⟨rfl, m2b, hM2b, hG2b⟩
  clear hp
  have x02b := (hG2b.cell (p := ⟨X, 0, none⟩) HX2.out.2 HX2.out.1).trans x02
  have x32b := (hG2b.cell (p := ⟨X, 3, none⟩) HX2.out.2 HX2.out.1).trans x32
  have HX2b := Lib.hid (And.intro (hG2b.block HX2.out.2 HX2.out.1).2 (Nat.lt_of_lt_of_le HX2.out.2 hG2b.oth.size))
  have H2b := Lib.hid (And.intro hM2b (And.intro (H2.out.2.1.trans hG2b) (And.intro x02b x32b)))
  clear hM2b hG2b x02 x32
  go_wp2_with fail
  obtain ⟨s2, hs2⟩ : ∃ s2, s2 = s.add (L0 ++ gnBit t) := ⟨_, rfl⟩
  have hV2 : s2.V = s.V := by rw [hs2]; rfl
  have hc2 : s2.code.length = s.code.length + L0.length + 2 := by rw [hs2, GS.add_len, List.length_append, gnBit_len]; omega
  have hp := later_any 15 t 0 ⟨⟨Ht.out.1, by have := Ht.out.2.2.2; omega⟩, zero12⟩ w2b B m2b F N s2 (by rw [hs2]; exact H2b.out.1) (by rw [hc2]; have := Hl.out.1; omega)
  rw [H2b.out.2.1.b] at hp
  refine hp.mono ?_
  rintro E w3 ⟨fv, rfl, m3, hM3, hG3, bm, ba, rfl, hlt⟩
  clear hp
  have HL3 : Hid (Later w3 m3 (laterV bm ba) s2.code.length) := ⟨bm, ba, rfl, hlt⟩
  unfold laterV
  have x33 := (hG3.cell (p := ⟨X, 3, none⟩) HX2b.out.2 HX2b.out.1).trans x32b
  have H3 := Lib.hid (And.intro hM3 (H2b.out.2.1.trans hG3))
  have HB3 : Hid (Below w0.heap.size w0 w3) := H3.out.2.below HB1.out fun k e => Nat.le_trans Hl.out.2.2.2.1 (Hmlo.out k e)
  obtain ⟨i0, i1, i2, i3⟩ := Hy.out.2.2.later HB3.out Hl.out.2.2.2.2
  simp only [Nat.one_mul] at i0 i1 i2 i3
  have Hs2 := Lib.hid (And.intro hs2 (And.intro hV2 hc2))
  clear hM3 hG3 hlt x02b x32b hs2 hV2 hc2
  go_wp2_with fail
  have hp := Hy.out.2.1 w3 B m3 F N _ t HB3.out Hl.out.2.2.2.1 H3.out.1 Ht.out.1 Ht.out.2.2.1 (by rw [GS.add_len, show (s2.add [⟨15, t, 0, 0, 0⟩]).V = s.V from Hs2.out.2.1, Hs2.out.2.2]; simp only [List.length_cons, List.length_nil]; rw [show s.code.length + L0.length + 2 + (0 + 1) = s.code.length + L0.length + 3 by omega, ← Hl.out.2.2.1]; have := Hl.out.1; omega)
  rw [H3.out.2.b, GS.add_len, show (s2.add [⟨15, t, 0, 0, 0⟩]).V = s.V from Hs2.out.2.1, Hs2.out.2.2] at hp
  simp only [List.length_cons, List.length_nil] at hp
  rw [show s.code.length + L0.length + 2 + (0 + 1) = s.code.length + L0.length + 3 by omega, ← Hl.out.2.2.1] at hp
  unfold exVal at hp
  refine hp.mono ?_
  rintro E w4 ⟨rfl, m4, hM4, hG4⟩
  clear hp i0 i1 i2 i3 x33
  have H4 := Lib.hid (And.intro hM4 (And.intro (H3.out.2.trans hG4) (HL3.out.step hG4)))
  clear hM4 hG4
  go_wp2_with fail
  have hp := bit_any t ⟨Ht.out.1, Ht.out.2.2.2⟩ w4 B m4 F N _ H4.out.1 (by simp only [GS.add_len, List.length_cons, List.length_nil]; rw [Hs2.out.2.2]; have := Hl.out.1; omega)
  rw [H4.out.2.1.b, GS.add_add] at hp
  refine hp.mono ?_
  rintro E w5 ⟨rfl, m5, hM5, hG5⟩
  clear hp
  have H5 := Lib.hid (And.intro hM5 (And.intro (H4.out.2.1.trans hG5) (H4.out.2.2.step hG5)))
  clear hM5 hG5
  go_wp2_with fail
  have hcl := H5.out.2.2.cells
  have hln : s2.code.length < (((s2.add [⟨15, t, 0, 0, 0⟩]).add (L1 ++ gnBit t))).code.length := by simp only [GS.add_len, List.length_append, List.length_cons, List.length_nil]; omega
  have hll : (((s2.add [⟨15, t, 0, 0, 0⟩]).add (L1 ++ gnBit t))).code.length ≤ 1000000000000 := by simp only [GS.add_len, List.length_append, List.length_cons, List.length_nil, gnBit_len]; rw [Hs2.out.2.2]; have := Hl.out.1; omega
  refine leaves_cons (f := 44) (args := #[.pointer (some ⟨bm, 0, none⟩), .pointer (some ⟨ba, 0, none⟩)]) (by simp) (by simp [go_sem]) ?_
  refine (patchD_any .returning bm ba s2.code.length w5 B m5 F N _ H5.out.1 hln hll hcl.1 hcl.2).mono ?_
  rintro E u' w6 ⟨rfl, rfl, hM6, hG6⟩
  refine ⟨_, results_none rfl _ _ _, rfl, m5, ?_, (GStep.of_below m HW.out.2.2).trans (H5.out.2.1.trans hG6)⟩
  rw [lead_add, Hs2.out.2.2, Hs2.out.1, GS.add_add, GS.add_add] at hM6
  simp only [List.length_append, gnBit_len] at hM6
  rw [show s.code.length + L0.length + 2 + 1 + (L1.length + 2) = s.code.length + L0.length + 3 + L1.length + 2 by omega] at hM6
  simpa only [List.append_assoc] using hM6
theorem gn_choose {V : GEnv} {F : ByteArray → Int} {x y0 y1 y2 : Ex} (hk : x.kind = 20) (h0 : x.args[0]? = some y0) (h1 : x.args[1]? = some y1) (h2 : x.args[2]? = some y2) (p : Nat) (t : Int) {L0 L1 : List Ins} (e0 : L0 = y0.gn V F p t) (e1 : L1 = y1.gn V F (p + L0.length + 1) t) : x.gn V F p t =
    L0 ++ [⟨16, t, 0, 0, ((p + L0.length + 1 + L1.length + 1 : Nat) : Int)⟩] ++ L1 ++ [⟨14, 0, 0, 0, ((p + L0.length + 1 + L1.length + 1 + (y2.gn V F (p + L0.length + 1 + L1.length + 1) t).length : Nat) : Int)⟩] ++ y2.gn V F (p + L0.length + 1 + L1.length + 1) t := by
  subst e0
  subst e1
  rw [Ex.gn_eq]
  simp only [gnOf, hk, gns_at h0, gns_at h1, gns_at h2]
  rfl
set_option maxRecDepth 100000 in
set_option maxHeartbeats 4000000 in
theorem choice_any (x : Ex) (hk : x.kind = 20) (w0 : World) (ad : Option Addr) (k cap : Nat) (vs : Nat → Value) (hkl : k = x.args.length) (h3 : 3 ≤ k) (hrow : RowOf w0 (.slice ad k cap) k 4 (fun b o i => ∀ y, x.args[i]? = some y → ExAt w0 b o y (vs i)))
    (hih : ∀ (i : Nat) y, x.args[i]? = some y → GxFor w0 y (vs i)) (W : World) (B : Nat) (m : Mk) (F : ByteArray → Int) (N : Nat) (s : GS) (t : Int) (hB : Below w0.heap.size w0 W) (hwB : w0.heap.size ≤ B) (h : MkAt W B m F N s) (ht0 : 0 ≤ t) (ht : t + (x.total : Int) ≤ 1000000) (hl : s.code.length + (x.gn s.V F s.code.length t).length ≤ 999999999000) :
    Calls Tryd.prog 33 #[ptrV m.b, exVal x (.slice ad k cap), .int .i64 t] W (fun E W' => E = .returned (.tuple #[]) ∧ ∃ m', MkAt W' B m' F N (s.add (x.gn s.V F s.code.length t)) ∧ GStep W m W' m') := by
  obtain ⟨y0, hy0⟩ : ∃ y, x.args[0]? = some y := ⟨_, List.getElem?_eq_getElem (by omega)⟩
  obtain ⟨y1, hy1⟩ : ∃ y, x.args[1]? = some y := ⟨_, List.getElem?_eq_getElem (by omega)⟩
  obtain ⟨y2, hy2⟩ : ∃ y, x.args[2]? = some y := ⟨_, List.getElem?_eq_getElem (by omega)⟩
  obtain ⟨b', off, rfl, hb', hP0⟩ := hrow.at (i := 0) (by omega)
  obtain ⟨b2, off2, he2, _, hP1⟩ := hrow.at (i := 1) (by omega)
  cases he2
  obtain ⟨b3, off3, he3, _, hP2⟩ := hrow.at (i := 2) (by omega)
  cases he3
  have ht1 := total_at hy0
  have ht2 := total_at hy1
  have ht3 := total_at hy2
  have htx := x.total_eq
  obtain ⟨L0, hL0⟩ : ∃ L, L = y0.gn s.V F s.code.length t := ⟨_, rfl⟩
  obtain ⟨L1, hL1⟩ : ∃ L, L = y1.gn s.V F (s.code.length + L0.length + 1) t := ⟨_, rfl⟩
  obtain ⟨L2, hL2⟩ : ∃ L, L = y2.gn s.V F (s.code.length + L0.length + 1 + L1.length + 1) t := ⟨_, rfl⟩
  have hgn := gn_choose (V := s.V) (F := F) hk hy0 hy1 hy2 s.code.length t hL0 hL1
  rw [← hL2] at hgn
  rw [hgn] at hl ⊢
  simp only [List.length_append, List.length_cons, List.length_nil] at hl
  obtain ⟨X, hX⟩ : ∃ X, X = W.heap.size := ⟨_, rfl⟩
  obtain ⟨W1, hW1⟩ : ∃ W1, W1 = W.alloc (.cells #[.int .i64 x.kind, .int .i64 x.n, .string x.name, .slice (some ⟨b', off, none⟩) k cap] 53) := ⟨_, rfl⟩
  have hb1 : Below W.heap.size W W1 := by rw [hW1]; exact (Below.refl _ _).alloc (Nat.le_refl _) _
  have x3 : W1.cell? ⟨X, 3, none⟩ = some (.slice (some ⟨b', off, none⟩) k cap) := by rw [hW1, hX]; exact World.cell?_alloc_at _ _ _ _ rfl
  have qX := block_lt_of_cell x3
  have HmT : Hid (¬ m.T X) := fun e => by have := h.inT X e; omega
  have HB1 : Hid (Below w0.heap.size w0 W1) := hB.trans (hb1.mono hB.size)
  obtain ⟨i0, i1, i2, i3⟩ := (hP0 y0 hy0).later HB1.out hb'
  simp only [Nat.zero_mul, Nat.add_zero] at i0 i1 i2 i3
  have hlen0 : 0 < k := by omega
  have hlen1 : 1 < k := by omega
  have hlen2 : 2 < k := by omega
  have H1 := Lib.hid (h.later hb1)
  have Hy := Lib.hid (And.intro (hih 0 y0 hy0) (And.intro (hih 1 y1 hy1) (And.intro (hih 2 y2 hy2) (And.intro (hP1 y1 hy1) (hP2 y2 hy2)))))
  have Hl := Lib.hid (And.intro hl (And.intro hL0 (And.intro hL1 (And.intro hL2 (And.intro hwB hb')))))
  have HW := Lib.hid (And.intro hW1 (And.intro hX hb1))
  have Ht := Lib.hid (show 0 ≤ t ∧ t + (y0.total : Int) ≤ 1000000 ∧ t + (y1.total : Int) ≤ 1000000 ∧ t + (y2.total : Int) ≤ 1000000 ∧ t ≤ 1000000 by omega)
  have Hmlo := Lib.hid h.low
  clear hrow hih hB hwB h ht0 ht hl hkl h3 hP0 hP1 hP2 hb' ht1 ht2 ht3 htx hL0 hL1 hL2 hgn hX hW1 hb1 hk hy0 hy1 hy2
  unfold exVal
  go_enter_defers Tryd.func33, Tryd.ntmps33
  go_upto_region 1 with (fail)
  rw [← HW.out.1, ← HW.out.2.1]
  go_wp2_with fail
  have hp := Hy.out.1 W1 B m F N s t HB1.out Hl.out.2.2.2.2.1 H1.out Ht.out.1 Ht.out.2.1 (by rw [← Hl.out.2.1]; have := Hl.out.1; omega)
  rw [← Hl.out.2.1] at hp
  unfold exVal at hp
  refine hp.mono ?_
  rintro E w2 ⟨rfl, m2, hM2, hG2⟩
  clear hp i0 i1 i2 i3
  obtain ⟨s1, hs1⟩ : ∃ s1, s1 = s.add L0 := ⟨_, rfl⟩
  rw [← hs1] at hM2
  have hV1 : s1.V = s.V := by rw [hs1]; rfl
  have hc1 : s1.code.length = s.code.length + L0.length := by rw [hs1, GS.add_len]
  have Hs1 := Lib.hid (And.intro hs1 (And.intro hV1 hc1))
  have x32 := (hG2.cell (p := ⟨X, 3, none⟩) qX HmT.out).trans x3
  have HX2 := Lib.hid (And.intro (hG2.block qX HmT.out).2 (Nat.lt_of_lt_of_le qX hG2.oth.size))
  have H2 := Lib.hid (And.intro hM2 hG2)
  clear hM2 hG2 x3 hs1 hV1 hc1
  go_wp2_with fail
  have hp := later_any 16 t 0 ⟨⟨Ht.out.1, by have := Ht.out.2.2.2.2; omega⟩, zero12⟩ w2 B m2 F N s1 H2.out.1 (by rw [Hs1.out.2.2]; have := Hl.out.1; omega)
  rw [H2.out.2.b] at hp
  refine hp.mono ?_
  rintro E w3 ⟨fv, rfl, m3, hM3, hG3, bm, ba, rfl, hlt⟩
  clear hp
  have HL3 : Hid (Later w3 m3 (laterV bm ba) s1.code.length) := ⟨bm, ba, rfl, hlt⟩
  unfold laterV
  have x33 := (hG3.cell (p := ⟨X, 3, none⟩) HX2.out.2 HX2.out.1).trans x32
  have HX3 := Lib.hid (And.intro (hG3.block HX2.out.2 HX2.out.1).2 (Nat.lt_of_lt_of_le HX2.out.2 hG3.oth.size))
  have H3 := Lib.hid (And.intro hM3 (H2.out.2.trans hG3))
  have HB3 : Hid (Below w0.heap.size w0 w3) := H3.out.2.below HB1.out fun k e => Nat.le_trans Hl.out.2.2.2.2.1 (Hmlo.out k e)
  obtain ⟨i0, i1, i2, i3⟩ := Hy.out.2.2.2.1.later HB3.out Hl.out.2.2.2.2.2
  simp only [Nat.one_mul] at i0 i1 i2 i3
  clear hM3 hG3 hlt x32
  go_wp2_with fail
  have hp := Hy.out.2.1 w3 B m3 F N _ t HB3.out Hl.out.2.2.2.2.1 H3.out.1 Ht.out.1 Ht.out.2.2.1 (by rw [GS.add_len, show (s1.add [⟨16, t, 0, 0, 0⟩]).V = s.V from Hs1.out.2.1, Hs1.out.2.2]; simp only [List.length_cons, List.length_nil]; rw [show s.code.length + L0.length + (0 + 1) = s.code.length + L0.length + 1 by omega, ← Hl.out.2.2.1]; have := Hl.out.1; omega)
  rw [H3.out.2.b, GS.add_len, show (s1.add [⟨16, t, 0, 0, 0⟩]).V = s.V from Hs1.out.2.1, Hs1.out.2.2] at hp
  simp only [List.length_cons, List.length_nil] at hp
  rw [show s.code.length + L0.length + (0 + 1) = s.code.length + L0.length + 1 by omega, ← Hl.out.2.2.1] at hp
  unfold exVal at hp
  refine hp.mono ?_
  rintro E w4 ⟨rfl, m4, hM4, hG4⟩
  clear hp i0 i1 i2 i3
  have x34 := (hG4.cell (p := ⟨X, 3, none⟩) HX3.out.2 HX3.out.1).trans x33
  have HX4 := Lib.hid (And.intro (hG4.block HX3.out.2 HX3.out.1).2 (Nat.lt_of_lt_of_le HX3.out.2 hG4.oth.size))
  have H4 := Lib.hid (And.intro hM4 (And.intro (H3.out.2.trans hG4) (HL3.out.step hG4)))
  clear hM4 hG4 x33
  go_wp2_with fail
  have hp := later_any 14 0 0 ⟨zero12, zero12⟩ w4 B m4 F N _ H4.out.1 (by simp only [GS.add_len, List.length_cons, List.length_nil]; rw [Hs1.out.2.2]; have := Hl.out.1; omega)
  rw [H4.out.2.1.b] at hp
  refine hp.mono ?_
  rintro E w5 ⟨fv, rfl, m5, hM5, hG5, bm5, ba5, rfl, hlt⟩
  clear hp
  have HL5 : Hid (Later w5 m5 (laterV bm5 ba5) ((s1.add [⟨16, t, 0, 0, 0⟩]).add L1).code.length) := ⟨bm5, ba5, rfl, hlt⟩
  unfold laterV
  rw [GS.add_add] at hM5
  have x35 := (hG5.cell (p := ⟨X, 3, none⟩) HX4.out.2 HX4.out.1).trans x34
  have HX5 := Lib.hid (And.intro (hG5.block HX4.out.2 HX4.out.1).2 (Nat.lt_of_lt_of_le HX4.out.2 hG5.oth.size))
  have H5 := Lib.hid (And.intro hM5 (And.intro (H4.out.2.1.trans hG5) (H4.out.2.2.step hG5)))
  clear hM5 hG5 hlt x34
  go_wp2_with fail
  have hcl := H5.out.2.2.cells
  have hp := patch_any bm ba s1.code.length w5 B m5 F N _ H5.out.1 (by simp only [GS.add_len, List.length_append, List.length_cons, List.length_nil]; omega) (by simp only [GS.add_len, List.length_append, List.length_cons, List.length_nil]; rw [Hs1.out.2.2]; have := Hl.out.1; omega) hcl.1 hcl.2
  refine hp.mono ?_
  rintro E w6 ⟨rfl, hM6, hG6⟩
  clear hp hcl
  rw [lead_add] at hM6
  obtain ⟨s3, hs3⟩ : ∃ s3, s3 = (s1.add [⟨16, t, 0, 0, ((s1.code.length + 1 + (L1 ++ [(⟨14, 0, 0, 0, 0⟩ : Ins)]).length : Nat) : Int)⟩]).add L1 := ⟨_, rfl⟩
  rw [← GS.add_add, ← hs3] at hM6
  have hV3 : s3.V = s.V := by rw [hs3]; exact Hs1.out.2.1
  have hc3 : s3.code.length = s.code.length + L0.length + 1 + L1.length := by rw [hs3, GS.add_len, GS.add_len, Hs1.out.2.2]; rfl
  have hc3' : ((s1.add [⟨16, t, 0, 0, 0⟩]).add L1).code.length = s3.code.length := by rw [hs3, GS.add_len, GS.add_len, GS.add_len, GS.add_len]; rfl
  have Hs3 := Lib.hid (And.intro hs3 (And.intro hV3 (And.intro hc3 hc3')))
  have x36 := (hG6.cell (p := ⟨X, 3, none⟩) HX5.out.2 HX5.out.1).trans x35
  have H6 := Lib.hid (And.intro hM6 (And.intro (H5.out.2.1.trans hG6) (HL5.out.step hG6)))
  have HB6 : Hid (Below w0.heap.size w0 w6) := H6.out.2.1.below HB1.out fun k e => Nat.le_trans Hl.out.2.2.2.2.1 (Hmlo.out k e)
  obtain ⟨i0, i1, i2, i3⟩ := Hy.out.2.2.2.2.later HB6.out Hl.out.2.2.2.2.2
  clear hM6 hG6 x35 hs3 hV3 hc3 hc3'
  go_wp2_with fail
  have hp := Hy.out.2.2.1 w6 B m5 F N _ t HB6.out Hl.out.2.2.2.2.1 H6.out.1 Ht.out.1 Ht.out.2.2.2.1 (by rw [GS.add_len, show (s3.add [⟨14, 0, 0, 0, 0⟩]).V = s.V from Hs3.out.2.1, Hs3.out.2.2.1]; simp only [List.length_cons, List.length_nil]; rw [show s.code.length + L0.length + 1 + L1.length + (0 + 1) = s.code.length + L0.length + 1 + L1.length + 1 by omega, ← Hl.out.2.2.2.1]; have := Hl.out.1; omega)
  rw [H6.out.2.1.b, GS.add_len, show (s3.add [⟨14, 0, 0, 0, 0⟩]).V = s.V from Hs3.out.2.1, Hs3.out.2.2.1] at hp
  simp only [List.length_cons, List.length_nil] at hp
  rw [show s.code.length + L0.length + 1 + L1.length + (0 + 1) = s.code.length + L0.length + 1 + L1.length + 1 by omega, ← Hl.out.2.2.2.1] at hp
  unfold exVal at hp
  refine hp.mono ?_
  rintro E w7 ⟨rfl, m7, hM7, hG7⟩
  clear hp i0 i1 i2 i3 x36
  have H7 := Lib.hid (And.intro hM7 (And.intro (H6.out.2.1.trans hG7) (H6.out.2.2.step hG7)))
  clear hM7 hG7
  go_wp2_with fail
  have hcl := H7.out.2.2.cells
  rw [Hs3.out.2.2.2] at hcl
  refine leaves_cons (f := 44) (args := #[.pointer (some ⟨bm5, 0, none⟩), .pointer (some ⟨ba5, 0, none⟩)]) (by simp) (by simp [go_sem]) ?_
  refine (patchD_any .returning bm5 ba5 s3.code.length w7 B m7 F N _ H7.out.1 (by simp only [GS.add_len, List.length_cons, List.length_nil]; omega) (by simp only [GS.add_len, List.length_cons, List.length_nil]; rw [Hs3.out.2.2.1]; have := Hl.out.1; omega) hcl.1 hcl.2).mono ?_
  rintro E u' w8 ⟨rfl, rfl, hM8, hG8⟩
  refine ⟨_, results_none rfl _ _ _, rfl, m7, ?_, (GStep.of_below m HW.out.2.2).trans (H7.out.2.1.trans hG8)⟩
  rw [lead_add, Hs3.out.2.2.1, Hs3.out.1, Hs1.out.2.2, Hs1.out.1, GS.add_add, GS.add_add, GS.add_add, GS.add_add] at hM8
  simp only [List.length_append, List.length_cons, List.length_nil] at hM8
  rw [show s.code.length + L0.length + 1 + (L1.length + (0 + 1)) = s.code.length + L0.length + 1 + L1.length + 1 by omega] at hM8
  simpa only [List.append_assoc] using hM8
end Go.Proofs.YtgobcldecokppaaDoor
