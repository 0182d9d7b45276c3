/- gen: an expression. -/
import Derived.Test.YtgobcldecokppaaDoorGnLazy
namespace Go.Proofs.YtgobcldecokppaaDoor
open Go.RowKit Go.Maps

theorem gn_f0 (r o s : Int) (w : World) : (Instr.field 67 (.agg #[.int .i64 r, .int .i64 o, .int .i64 s]) 0).run Tryd.prog w = .ok (.int .i64 r) w := by kernel_rfl
theorem MkAt.lookV {w : World} {B : Nat} {m : Mk} {F : ByteArray → Int} {N : Nat} {s : GS} (h : MkAt w B m F N s) (y : ByteArray) (hy : y.size ≤ 16) : (Instr.lookup 62 (.map (some m.v)) (.string y) false).run Tryd.prog w = .ok (.agg #[.int .i64 (s.V y).reg, .int .i64 (s.V y).off, .int .i64 (s.V y).size]) w := by
  obtain ⟨S, hS, _⟩ := h.vars
  exact hS.look y (by unfold maxLen; omega) _ rfl
set_option maxRecDepth 100000 in
set_option maxHeartbeats 4000000 in
theorem gx_num (x : Ex) (hk : x.kind = 1) (hs : x.name.size ≤ 16) (w0 : World) (ad : Option Addr) (k cap : Nat)  : GxFor w0 x (.slice ad k cap) := by
  intro W B m F N s t hB hwB h ht0 ht hl
  obtain ⟨X, hX⟩ : ∃ X, X = W.heap.size := ⟨_, rfl⟩
  obtain ⟨W1, hW1⟩ : ∃ W1, W1 = W.alloc (.cells #[.int .i64 x.kind, .int .i64 x.n, .string x.name, .slice ad k cap] 53) := ⟨_, rfl⟩
  have hb1 : Below W.heap.size W W1 := by rw [hW1]; exact (Below.refl _ _).alloc (Nat.le_refl _) _
  have x0 : W1.cell? ⟨X, 0, none⟩ = some (.int .i64 x.kind) := by rw [hW1, hX]; exact World.cell?_alloc_at _ _ _ _ rfl
  have x1 : W1.cell? ⟨X, 1, none⟩ = some (.int .i64 x.n) := by rw [hW1, hX]; exact World.cell?_alloc_at _ _ _ _ rfl
  have x2 : W1.cell? ⟨X, 2, none⟩ = some (.string x.name) := by rw [hW1, hX]; exact World.cell?_alloc_at _ _ _ _ rfl
  have x3 : W1.cell? ⟨X, 3, none⟩ = some (.slice ad k cap) := by rw [hW1, hX]; exact World.cell?_alloc_at _ _ _ _ rfl
  have qX := block_lt_of_cell x0
  have HmT : Hid (¬ m.T X) := fun e => by have := h.inT X e; omega
  have HB1 : Hid (Below w0.heap.size w0 W1) := hB.trans (hb1.mono hB.size)
  have htx := x.total_eq
  have hwt : wrap64 t = t := by unfold wrap64; omega
  have hwt1 : wrap64 (t + 1) = t + 1 := by unfold wrap64; omega
  have H1 := Lib.hid (h.later hb1)
  have HW := Lib.hid (And.intro hW1 (And.intro hX hb1))
  have Hmlo := Lib.hid h.low
  have Hw := Lib.hid hwB
  have Hs := Lib.hid hs
  have hgn : x.gn s.V F s.code.length t = [⟨1, t, 0, 0, x.n⟩] := by rw [Ex.gn_eq]; simp [gnOf, hk]
  rw [hgn] at hl ⊢
  simp only [List.length_cons, List.length_nil] at hl
  have Ht := Lib.hid (show (0 ≤ t ∧ t ≤ 1000000000000) ∧ s.code.length ≤ 1000000000000 by omega)
  have q1 : (x.kind == 1) = true := by simp [hk]
  have q2 : (x.kind == 2) = false := by simp [hk]
  have q3 : (x.kind == 3) = false := by simp [hk]
  have q4 : (x.kind == 4) = false := by simp [hk]
  have q5 : (x.kind == 5) = false := by simp [hk]
  have q6 : (x.kind == 6) = false := by simp [hk]
  have q18 : (x.kind == 18) = false := by simp [hk]
  have q19 : (x.kind == 19) = false := by simp [hk]
  have q20 : (x.kind == 20) = false := by simp [hk]
  clear hB hwB h ht0 ht hl hX hW1 hb1 htx hs hk hgn
  unfold exVal
  go_enter Tryd.func22, Tryd.ntmps22
  go_upto_region 1 with (fail)
  rw [← HW.out.1, ← HW.out.2.1]
  go_wp2_with fail
  refine (put_any ⟨1, t, 0, 0, x.n⟩ (regs3 Ht.out.1 zero12 zero12 _ _) W1 B m F N s H1.out Ht.out.2).mono ?_
  rintro E w2 ⟨rfl, m2, hM2, hG2⟩
  have H2 := Lib.hid (And.intro hM2 hG2)
  clear hM2 hG2
  go_wp2_with fail
  refine bodyPost_end (results_none rfl _ _ _) rfl ?_
  exact ⟨rfl, m2, H2.out.1, (GStep.of_below m HW.out.2.2).trans H2.out.2⟩
set_option maxRecDepth 100000 in
set_option maxHeartbeats 4000000 in
theorem gx_name (x : Ex) (hk : x.kind = 2) (hs : x.name.size ≤ 16) (w0 : World) (ad : Option Addr) (k cap : Nat)  : GxFor w0 x (.slice ad k cap) := by
  intro W B m F N s t hB hwB h ht0 ht hl
  obtain ⟨X, hX⟩ : ∃ X, X = W.heap.size := ⟨_, rfl⟩
  obtain ⟨W1, hW1⟩ : ∃ W1, W1 = W.alloc (.cells #[.int .i64 x.kind, .int .i64 x.n, .string x.name, .slice ad k cap] 53) := ⟨_, rfl⟩
  have hb1 : Below W.heap.size W W1 := by rw [hW1]; exact (Below.refl _ _).alloc (Nat.le_refl _) _
  have x0 : W1.cell? ⟨X, 0, none⟩ = some (.int .i64 x.kind) := by rw [hW1, hX]; exact World.cell?_alloc_at _ _ _ _ rfl
  have x1 : W1.cell? ⟨X, 1, none⟩ = some (.int .i64 x.n) := by rw [hW1, hX]; exact World.cell?_alloc_at _ _ _ _ rfl
  have x2 : W1.cell? ⟨X, 2, none⟩ = some (.string x.name) := by rw [hW1, hX]; exact World.cell?_alloc_at _ _ _ _ rfl
  have x3 : W1.cell? ⟨X, 3, none⟩ = some (.slice ad k cap) := by rw [hW1, hX]; exact World.cell?_alloc_at _ _ _ _ rfl
  have qX := block_lt_of_cell x0
  have HmT : Hid (¬ m.T X) := fun e => by have := h.inT X e; omega
  have HB1 : Hid (Below w0.heap.size w0 W1) := hB.trans (hb1.mono hB.size)
  have htx := x.total_eq
  have hwt : wrap64 t = t := by unfold wrap64; omega
  have hwt1 : wrap64 (t + 1) = t + 1 := by unfold wrap64; omega
  have H1 := Lib.hid (h.later hb1)
  have HW := Lib.hid (And.intro hW1 (And.intro hX hb1))
  have Hmlo := Lib.hid h.low
  have Hw := Lib.hid hwB
  have Hs := Lib.hid hs
  have hgn : x.gn s.V F s.code.length t = [⟨2, t, (s.V x.name).reg, 0, 0⟩] := by rw [Ex.gn_eq]; simp [gnOf, hk]
  rw [hgn] at hl ⊢
  simp only [List.length_cons, List.length_nil] at hl
  have Ht := Lib.hid (show (0 ≤ t ∧ t ≤ 1000000000000) ∧ s.code.length ≤ 1000000000000 by omega)
  have qb := h.in
  have q1 : (x.kind == 1) = false := by simp [hk]
  have q2 : (x.kind == 2) = true := by simp [hk]
  have q3 : (x.kind == 3) = false := by simp [hk]
  have q4 : (x.kind == 4) = false := by simp [hk]
  have q5 : (x.kind == 5) = false := by simp [hk]
  have q6 : (x.kind == 6) = false := by simp [hk]
  have q18 : (x.kind == 18) = false := by simp [hk]
  have q19 : (x.kind == 19) = false := by simp [hk]
  have q20 : (x.kind == 20) = false := by simp [hk]
  clear hB hwB h ht0 ht hl hX hW1 hb1 htx hs hk hgn
  unfold exVal
  go_enter Tryd.func22, Tryd.ntmps22
  go_upto_region 1 with (fail)
  rw [← HW.out.1, ← HW.out.2.1]
  go_upto_region 8 with (fail)
  obtain ⟨pr, hpr⟩ : ∃ z, z = s.V x.name := ⟨_, rfl⟩
  have hfd := gn_f0 pr.reg pr.off pr.size
  refine wp_region_held (S := fun w => w.cell? ⟨m.b, 2, none⟩ = some (.map (some m.v)) ∧ w.cell? ⟨X, 2, none⟩ = some (.string x.name) ∧ (Instr.lookup 62 (.map (some m.v)) (.string x.name) false).run Tryd.prog w = .ok (.agg #[.int .i64 pr.reg, .int .i64 pr.off, .int .i64 pr.size]) w) rfl ?_
  change wpAnyH _ _ _ _ _ _ _ _ W1.drew
  obtain ⟨W0, hW0⟩ : ∃ W0, W0 = W1.drew := ⟨_, rfl⟩
  rw [← hW0]
  have hb0 : Below W1.heap.size W1 W0 := by rw [hW0]; exact (Below.refl _ _).drew
  have HM0 := Lib.hid (H1.out.later hb0)
  have hx20 := (hb0.cell (p := ⟨X, 2, none⟩) qX).trans x2
  have Hb : Hid (W0.cell? ⟨m.b, 2, none⟩ = some (.map (some m.v)) ∧ W0.cell? ⟨X, 2, none⟩ = some (.string x.name) ∧ (Instr.lookup 62 (.map (some m.v)) (.string x.name) false).run Tryd.prog W0 = .ok (.agg #[.int .i64 pr.reg, .int .i64 pr.off, .int .i64 pr.size]) W0) :=
    ⟨HM0.out.c2, hx20, by rw [hpr]; exact HM0.out.lookV x.name Hs.out⟩
  have Hg0 := Lib.hid (And.intro hb0 (And.intro hx20 hpr))
  clear hb0 hx20 hpr hW0 x0 x1 x2 x3
  refine wpAnyH_take (i := 0) (by simp only [List.getElem?_toArray, List.getElem?_cons_zero]; rfl) (by kernel_rfl) (by kernel_rfl) (by kernel_rfl) (by intro _ _ _ h; exact h) (Or.inl ⟨by rfl, fun w hw => by (obtain ⟨k0, k1, k2⟩ := hw; go_simp; try rfl)⟩) Hb.out ?_
  refine wpAnyH_take (i := 1) (by simp only [List.getElem?_toArray, List.getElem?_cons_succ, List.getElem?_cons_zero]; rfl) (by kernel_rfl) (by kernel_rfl) (by kernel_rfl) (by intro _ _ _ h; exact h) (Or.inl ⟨by rfl, fun w hw => by (obtain ⟨k0, k1, k2⟩ := hw; go_simp; try rfl)⟩) Hb.out ?_
  go_frame
  refine wpAnyH_take (i := 2) (by simp only [List.getElem?_toArray, List.getElem?_cons_succ, List.getElem?_cons_zero]; rfl) (by kernel_rfl) (by kernel_rfl) (by kernel_rfl) (by intro _ _ _ h; exact h) (Or.inl ⟨by rfl, fun w hw => by (obtain ⟨k0, k1, k2⟩ := hw; go_simp; try rfl)⟩) Hb.out ?_
  refine wpAnyH_take (i := 3) (by simp only [List.getElem?_toArray, List.getElem?_cons_succ, List.getElem?_cons_zero]; rfl) (by kernel_rfl) (by kernel_rfl) (by kernel_rfl) (by intro _ _ _ h; exact h) (Or.inl ⟨by rfl, fun w hw => by (obtain ⟨k0, k1, k2⟩ := hw; go_simp; try rfl)⟩) Hb.out ?_
  go_frame
  refine wpAnyH_take (i := 4) (by simp only [List.getElem?_toArray, List.getElem?_cons_succ, List.getElem?_cons_zero]; rfl) (by kernel_rfl) (by kernel_rfl) (by kernel_rfl) (by intro _ _ _ h; exact h) (Or.inl ⟨by rfl, fun w hw => by (obtain ⟨k0, k1, k2⟩ := hw; go_simp; try rfl)⟩) Hb.out ?_
  refine wpAnyH_take (i := 5) (by simp only [List.getElem?_toArray, List.getElem?_cons_succ, List.getElem?_cons_zero]; rfl) (by kernel_rfl) (by kernel_rfl) (by kernel_rfl) (by intro _ _ _ h; exact h) (Or.inl ⟨by rfl, fun w hw => by (obtain ⟨k0, k1, k2⟩ := hw; go_simp; try rfl)⟩) Hb.out ?_
  go_frame
  refine wpAnyH_take (i := 6) (by simp only [List.getElem?_toArray, List.getElem?_cons_succ, List.getElem?_cons_zero]; rfl) (by kernel_rfl) (by kernel_rfl) (by kernel_rfl) (by intro _ _ _ h; exact h) (Or.inl ⟨by rfl, fun w hw => by (obtain ⟨k0, k1, k2⟩ := hw; go_simp; try rfl)⟩) Hb.out ?_
  refine wpAnyH_take (i := 7) (by simp only [List.getElem?_toArray, List.getElem?_cons_succ, List.getElem?_cons_zero]; rfl) (by kernel_rfl) (by kernel_rfl) (by kernel_rfl) (by intro _ _ _ h; exact h) (Or.inl ⟨by rfl, fun w hw => by (obtain ⟨k0, k1, k2⟩ := hw; go_simp; try rfl)⟩) Hb.out ?_
  go_frame
  refine wpAnyH_take (i := 8) (by simp only [List.getElem?_toArray, List.getElem?_cons_succ, List.getElem?_cons_zero]; rfl) (by kernel_rfl) (by kernel_rfl) (by kernel_rfl) (by intro _ _ _ h; exact h) (Or.inl ⟨by rfl, fun w hw => by (obtain ⟨k0, k1, k2⟩ := hw; go_simp; try rfl)⟩) Hb.out ?_
  refine wpAnyH_take (i := 9) (by simp only [List.getElem?_toArray, List.getElem?_cons_succ, List.getElem?_cons_zero]; rfl) (by kernel_rfl) (by kernel_rfl) (by kernel_rfl) (by intro _ _ _ h; exact h) (Or.inl ⟨by rfl, fun w hw => by (obtain ⟨k0, k1, k2⟩ := hw; go_simp; try rfl)⟩) Hb.out ?_
  go_frame
  refine wpAnyH_take (i := 10) (by simp only [List.getElem?_toArray, List.getElem?_cons_succ, List.getElem?_cons_zero]; rfl) (by kernel_rfl) (by kernel_rfl) (by kernel_rfl) (by intro _ _ _ h; exact h) (Or.inl ⟨by rfl, fun w hw => by (obtain ⟨k0, k1, k2⟩ := hw; go_simp; try rfl)⟩) Hb.out ?_
  go_frame
  refine wpAnyH_ready (rs := [11]) (by kernel_rfl) (by simp) ?_
  refine AllReadyH.cons rfl (fun K hK => ?_) AllReadyH.nil
  go_simp
  refine (put_any ⟨2, t, pr.reg, 0, 0⟩ (regs3 Ht.out.1 (by rw [Hg0.out.2.2]; exact HM0.out.vreg _) zero12 _ _) W0 B m F N s HM0.out Ht.out.2).mono ?_
  rintro E w2 ⟨rfl, m2, hM2, hG2⟩
  have hx22 := (hG2.cell (p := ⟨X, 2, none⟩) (Nat.lt_of_lt_of_le qX Hg0.out.1.size) HmT.out).trans Hg0.out.2.1
  have HS2 : Hid (w2.cell? ⟨m.b, 2, none⟩ = some (.map (some m.v)) ∧ w2.cell? ⟨X, 2, none⟩ = some (.string x.name) ∧ (Instr.lookup 62 (.map (some m.v)) (.string x.name) false).run Tryd.prog w2 = .ok (.agg #[.int .i64 pr.reg, .int .i64 pr.off, .int .i64 pr.size]) w2) :=
    ⟨by have h1 := hM2.c2; rw [hG2.b, hG2.v] at h1; exact h1, hx22, by have h1 := hM2.lookV x.name Hs.out; rw [hG2.v] at h1; rw [Hg0.out.2.2]; exact h1⟩
  have H2 := Lib.hid (And.intro hM2 hG2)
  clear hM2 hG2 hx22
  refine hK.out _ _ HS2.out (fun _ => ?_)
  clear hK K
  try go_frame
  refine wpAnyH_done (by kernel_rfl) ?_ _
  go_wp2_with fail
  refine bodyPost_end (results_none rfl _ _ _) rfl ?_
  exact ⟨rfl, m2, by rw [← Hg0.out.2.2]; exact H2.out.1, (GStep.of_below m HW.out.2.2).trans ((GStep.of_below m Hg0.out.1).trans H2.out.2)⟩
set_option maxRecDepth 100000 in
set_option maxHeartbeats 4000000 in
theorem gx_not (x : Ex) (hk : x.kind = 6) (hs : x.name.size ≤ 16) (w0 : World) (ad : Option Addr) (k cap : Nat) (vs : Nat → Value) (hkl : k = x.args.length) (h2 : 1 ≤ k) (hrow : RowOf w0 (.slice ad k cap) k 4 (fun b o i => ∀ y, x.args[i]? = some y → ExAt w0 b o y (vs i)))
    (hih : ∀ (i : Nat) y, x.args[i]? = some y → GxFor w0 y (vs i)) : GxFor w0 x (.slice ad k cap) := by
  intro W B m F N s t hB hwB h ht0 ht hl
  obtain ⟨y0, hy0⟩ : ∃ y, x.args[0]? = some y := ⟨_, List.getElem?_eq_getElem (by omega)⟩
  obtain ⟨b', off, rfl, hb', hP0⟩ := hrow.at (i := 0) (by omega)
  obtain ⟨X, hX⟩ : ∃ X, X = W.heap.size := ⟨_, rfl⟩
  obtain ⟨W1, hW1⟩ : ∃ W1, W1 = W.alloc (.cells #[.int .i64 x.kind, .int .i64 x.n, .string x.name, .slice (some ⟨b', off, none⟩) k cap] 53) := ⟨_, rfl⟩
  have hb1 : Below W.heap.size W W1 := by rw [hW1]; exact (Below.refl _ _).alloc (Nat.le_refl _) _
  have x0 : W1.cell? ⟨X, 0, none⟩ = some (.int .i64 x.kind) := by rw [hW1, hX]; exact World.cell?_alloc_at _ _ _ _ rfl
  have x1 : W1.cell? ⟨X, 1, none⟩ = some (.int .i64 x.n) := by rw [hW1, hX]; exact World.cell?_alloc_at _ _ _ _ rfl
  have x2 : W1.cell? ⟨X, 2, none⟩ = some (.string x.name) := by rw [hW1, hX]; exact World.cell?_alloc_at _ _ _ _ rfl
  have x3 : W1.cell? ⟨X, 3, none⟩ = some (.slice (some ⟨b', off, none⟩) k cap) := by rw [hW1, hX]; exact World.cell?_alloc_at _ _ _ _ rfl
  have qX := block_lt_of_cell x0
  have HmT : Hid (¬ m.T X) := fun e => by have := h.inT X e; omega
  have HB1 : Hid (Below w0.heap.size w0 W1) := hB.trans (hb1.mono hB.size)
  have htx := x.total_eq
  have hwt : wrap64 t = t := by unfold wrap64; omega
  have hwt1 : wrap64 (t + 1) = t + 1 := by unfold wrap64; omega
  have H1 := Lib.hid (h.later hb1)
  have HW := Lib.hid (And.intro hW1 (And.intro hX hb1))
  have Hmlo := Lib.hid h.low
  have Hw := Lib.hid hwB
  have Hs := Lib.hid hs
  have ht1 := total_at hy0
  obtain ⟨L0, hL0⟩ : ∃ L, L = y0.gn s.V F s.code.length t := ⟨_, rfl⟩
  have hgn : x.gn s.V F s.code.length t = L0 ++ [⟨10, t, t, 0, 0⟩] := by rw [Ex.gn_eq]; simp only [gnOf, hk, gns_at hy0, hL0]; rfl
  rw [hgn] at hl ⊢
  simp only [List.length_append, List.length_cons, List.length_nil] at hl
  obtain ⟨i0, i1, i2, i3⟩ := (hP0 y0 hy0).later HB1.out hb'
  simp only [Nat.zero_mul, Nat.add_zero] at i0 i1 i2 i3
  have hlen0 : 0 < k := by omega
  have Hy := Lib.hid (And.intro (hih 0 y0 hy0) True.intro)
  have Hl := Lib.hid (And.intro hl hL0)
  have Ht := Lib.hid (show 0 ≤ t ∧ t + (y0.total : Int) ≤ 1000000 ∧ t ≤ 1000000 by omega)
  have q1 : (x.kind == 1) = false := by simp [hk]
  have q2 : (x.kind == 2) = false := by simp [hk]
  have q3 : (x.kind == 3) = false := by simp [hk]
  have q4 : (x.kind == 4) = false := by simp [hk]
  have q5 : (x.kind == 5) = false := by simp [hk]
  have q6 : (x.kind == 6) = true := by simp [hk]
  have q18 : (x.kind == 18) = false := by simp [hk]
  have q19 : (x.kind == 19) = false := by simp [hk]
  have q20 : (x.kind == 20) = false := by simp [hk]
  clear hB hwB h ht0 ht hl hX hW1 hb1 htx hs hk hgn hrow hih hkl h2 hP0 hb' ht1 hL0 hy0
  unfold exVal
  go_enter Tryd.func22, Tryd.ntmps22
  go_upto_region 1 with (fail)
  rw [← HW.out.1, ← HW.out.2.1]
  go_wp2_with fail
  have hp := Hy.out.1 W1 B m F N s t HB1.out Hw.out H1.out Ht.out.1 Ht.out.2.1 (by rw [← Hl.out.2]; have := Hl.out.1; omega)
  rw [← Hl.out.2] at hp
  unfold exVal at hp
  refine hp.mono ?_
  rintro E w2 ⟨rfl, m2, hM2, hG2⟩
  clear hp i0 i1 i2 i3
  have H2 := Lib.hid (And.intro hM2 hG2)
  clear hM2 hG2 x0 x1 x2 x3
  go_wp2_with fail
  have hp := put_any ⟨10, t, t, 0, 0⟩ (regs3 (by have := Ht.out; omega) (by have := Ht.out; omega) zero12 _ _) w2 B m2 F N _ H2.out.1 (by rw [GS.add_len]; have := Hl.out.1; omega)
  rw [H2.out.2.b, GS.add_add] at hp
  refine hp.mono ?_
  rintro E w3 ⟨rfl, m3, hM3, hG3⟩
  clear hp
  have H3 := Lib.hid (And.intro hM3 hG3)
  clear hM3 hG3
  go_wp2_with fail
  refine bodyPost_end (results_none rfl _ _ _) rfl ?_
  exact ⟨rfl, m3, H3.out.1, (GStep.of_below m HW.out.2.2).trans (H2.out.2.trans H3.out.2)⟩
set_option maxRecDepth 100000 in
set_option maxHeartbeats 4000000 in
theorem gx_neg (x : Ex) (hk : x.kind = 5) (hs : x.name.size ≤ 16) (w0 : World) (ad : Option Addr) (k cap : Nat) (vs : Nat → Value) (hkl : k = x.args.length) (h2 : 1 ≤ k) (hrow : RowOf w0 (.slice ad k cap) k 4 (fun b o i => ∀ y, x.args[i]? = some y → ExAt w0 b o y (vs i)))
    (hih : ∀ (i : Nat) y, x.args[i]? = some y → GxFor w0 y (vs i)) : GxFor w0 x (.slice ad k cap) := by
  intro W B m F N s t hB hwB h ht0 ht hl
  obtain ⟨y0, hy0⟩ : ∃ y, x.args[0]? = some y := ⟨_, List.getElem?_eq_getElem (by omega)⟩
  obtain ⟨b', off, rfl, hb', hP0⟩ := hrow.at (i := 0) (by omega)
  obtain ⟨X, hX⟩ : ∃ X, X = W.heap.size := ⟨_, rfl⟩
  obtain ⟨W1, hW1⟩ : ∃ W1, W1 = W.alloc (.cells #[.int .i64 x.kind, .int .i64 x.n, .string x.name, .slice (some ⟨b', off, none⟩) k cap] 53) := ⟨_, rfl⟩
  have hb1 : Below W.heap.size W W1 := by rw [hW1]; exact (Below.refl _ _).alloc (Nat.le_refl _) _
  have x0 : W1.cell? ⟨X, 0, none⟩ = some (.int .i64 x.kind) := by rw [hW1, hX]; exact World.cell?_alloc_at _ _ _ _ rfl
  have x1 : W1.cell? ⟨X, 1, none⟩ = some (.int .i64 x.n) := by rw [hW1, hX]; exact World.cell?_alloc_at _ _ _ _ rfl
  have x2 : W1.cell? ⟨X, 2, none⟩ = some (.string x.name) := by rw [hW1, hX]; exact World.cell?_alloc_at _ _ _ _ rfl
  have x3 : W1.cell? ⟨X, 3, none⟩ = some (.slice (some ⟨b', off, none⟩) k cap) := by rw [hW1, hX]; exact World.cell?_alloc_at _ _ _ _ rfl
  have qX := block_lt_of_cell x0
  have HmT : Hid (¬ m.T X) := fun e => by have := h.inT X e; omega
  have HB1 : Hid (Below w0.heap.size w0 W1) := hB.trans (hb1.mono hB.size)
  have htx := x.total_eq
  have hwt : wrap64 t = t := by unfold wrap64; omega
  have hwt1 : wrap64 (t + 1) = t + 1 := by unfold wrap64; omega
  have H1 := Lib.hid (h.later hb1)
  have HW := Lib.hid (And.intro hW1 (And.intro hX hb1))
  have Hmlo := Lib.hid h.low
  have Hw := Lib.hid hwB
  have Hs := Lib.hid hs
  have ht1 := total_at hy0
  obtain ⟨L0, hL0⟩ : ∃ L, L = y0.gn s.V F s.code.length t := ⟨_, rfl⟩
  have hgn : x.gn s.V F s.code.length t = L0 ++ [⟨1, t + 1, 0, 0, 0⟩, ⟨4, t, t + 1, t, 0⟩] := by rw [Ex.gn_eq]; simp only [gnOf, hk, gns_at hy0, hL0]; rfl
  rw [hgn] at hl ⊢
  simp only [List.length_append, List.length_cons, List.length_nil] at hl
  obtain ⟨i0, i1, i2, i3⟩ := (hP0 y0 hy0).later HB1.out hb'
  simp only [Nat.zero_mul, Nat.add_zero] at i0 i1 i2 i3
  have hlen0 : 0 < k := by omega
  have Hy := Lib.hid (And.intro (hih 0 y0 hy0) True.intro)
  have Hl := Lib.hid (And.intro hl hL0)
  have Ht := Lib.hid (show 0 ≤ t ∧ t + (y0.total : Int) ≤ 1000000 ∧ t ≤ 1000000 by omega)
  have q1 : (x.kind == 1) = false := by simp [hk]
  have q2 : (x.kind == 2) = false := by simp [hk]
  have q3 : (x.kind == 3) = false := by simp [hk]
  have q4 : (x.kind == 4) = false := by simp [hk]
  have q5 : (x.kind == 5) = true := by simp [hk]
  have q6 : (x.kind == 6) = false := by simp [hk]
  have q18 : (x.kind == 18) = false := by simp [hk]
  have q19 : (x.kind == 19) = false := by simp [hk]
  have q20 : (x.kind == 20) = false := by simp [hk]
  clear hB hwB h ht0 ht hl hX hW1 hb1 htx hs hk hgn hrow hih hkl h2 hP0 hb' ht1 hL0 hy0
  unfold exVal
  go_enter Tryd.func22, Tryd.ntmps22
  go_upto_region 1 with (fail)
  rw [← HW.out.1, ← HW.out.2.1]
  go_wp2_with fail
  have hp := Hy.out.1 W1 B m F N s t HB1.out Hw.out H1.out Ht.out.1 Ht.out.2.1 (by rw [← Hl.out.2]; have := Hl.out.1; omega)
  rw [← Hl.out.2] at hp
  unfold exVal at hp
  refine hp.mono ?_
  rintro E w2 ⟨rfl, m2, hM2, hG2⟩
  clear hp i0 i1 i2 i3
  have H2 := Lib.hid (And.intro hM2 hG2)
  clear hM2 hG2 x0 x1 x2 x3
  go_wp2_with fail
  have hp := put_any ⟨1, t + 1, 0, 0, 0⟩ (regs3 (by have := Ht.out; omega) zero12 zero12 _ _) w2 B m2 F N _ H2.out.1 (by rw [GS.add_len]; have := Hl.out.1; omega)
  rw [H2.out.2.b, GS.add_add] at hp
  refine hp.mono ?_
  rintro E w3 ⟨rfl, m3, hM3, hG3⟩
  clear hp
  have H3 := Lib.hid (And.intro hM3 (H2.out.2.trans hG3))
  clear hM3 hG3
  go_wp2_with fail
  have hp := put_any ⟨4, t, t + 1, t, 0⟩ (regs3 (by have := Ht.out; omega) (by have := Ht.out; omega) (by have := Ht.out; omega) _ _) w3 B m3 F N _ H3.out.1 (by rw [GS.add_len, List.length_append]; simp only [List.length_cons, List.length_nil]; have := Hl.out.1; omega)
  rw [H3.out.2.b, GS.add_add] at hp
  refine hp.mono ?_
  rintro E w4 ⟨rfl, m4, hM4, hG4⟩
  clear hp
  have H4 := Lib.hid (And.intro hM4 hG4)
  clear hM4 hG4
  go_wp2_with fail
  refine bodyPost_end (results_none rfl _ _ _) rfl ?_
  exact ⟨rfl, m4, by have h1 := H4.out.1; rw [List.append_assoc] at h1; exact h1, (GStep.of_below m HW.out.2.2).trans (H3.out.2.trans H4.out.2)⟩
set_option maxRecDepth 100000 in
set_option maxHeartbeats 4000000 in
theorem gx_two (x : Ex) (n1 : x.kind ≠ 1) (n2 : x.kind ≠ 2) (n3 : x.kind ≠ 3) (n4 : x.kind ≠ 4) (n5 : x.kind ≠ 5) (n6 : x.kind ≠ 6) (n18 : x.kind ≠ 18) (n19 : x.kind ≠ 19) (n20 : x.kind ≠ 20) (hs : x.name.size ≤ 16) (w0 : World) (ad : Option Addr) (k cap : Nat) (vs : Nat → Value) (hkl : k = x.args.length) (h2 : 2 ≤ k) (hrow : RowOf w0 (.slice ad k cap) k 4 (fun b o i => ∀ y, x.args[i]? = some y → ExAt w0 b o y (vs i)))
    (hih : ∀ (i : Nat) y, x.args[i]? = some y → GxFor w0 y (vs i)) : GxFor w0 x (.slice ad k cap) := by
  intro W B m F N s t hB hwB h ht0 ht hl
  obtain ⟨y0, hy0⟩ : ∃ y, x.args[0]? = some y := ⟨_, List.getElem?_eq_getElem (by omega)⟩
  obtain ⟨y1, hy1⟩ : ∃ y, x.args[1]? = some y := ⟨_, List.getElem?_eq_getElem (by omega)⟩
  obtain ⟨b', off, rfl, hb', hP0⟩ := hrow.at (i := 0) (by omega)
  obtain ⟨b2, off2, he2, _, hP1⟩ := hrow.at (i := 1) (by omega)
  cases he2
  obtain ⟨X, hX⟩ : ∃ X, X = W.heap.size := ⟨_, rfl⟩
  obtain ⟨W1, hW1⟩ : ∃ W1, W1 = W.alloc (.cells #[.int .i64 x.kind, .int .i64 x.n, .string x.name, .slice (some ⟨b', off, none⟩) k cap] 53) := ⟨_, rfl⟩
  have hb1 : Below W.heap.size W W1 := by rw [hW1]; exact (Below.refl _ _).alloc (Nat.le_refl _) _
  have x0 : W1.cell? ⟨X, 0, none⟩ = some (.int .i64 x.kind) := by rw [hW1, hX]; exact World.cell?_alloc_at _ _ _ _ rfl
  have x1 : W1.cell? ⟨X, 1, none⟩ = some (.int .i64 x.n) := by rw [hW1, hX]; exact World.cell?_alloc_at _ _ _ _ rfl
  have x2 : W1.cell? ⟨X, 2, none⟩ = some (.string x.name) := by rw [hW1, hX]; exact World.cell?_alloc_at _ _ _ _ rfl
  have x3 : W1.cell? ⟨X, 3, none⟩ = some (.slice (some ⟨b', off, none⟩) k cap) := by rw [hW1, hX]; exact World.cell?_alloc_at _ _ _ _ rfl
  have qX := block_lt_of_cell x0
  have HmT : Hid (¬ m.T X) := fun e => by have := h.inT X e; omega
  have HB1 : Hid (Below w0.heap.size w0 W1) := hB.trans (hb1.mono hB.size)
  have htx := x.total_eq
  have hwt : wrap64 t = t := by unfold wrap64; omega
  have hwt1 : wrap64 (t + 1) = t + 1 := by unfold wrap64; omega
  have H1 := Lib.hid (h.later hb1)
  have HW := Lib.hid (And.intro hW1 (And.intro hX hb1))
  have Hmlo := Lib.hid h.low
  have Hw := Lib.hid hwB
  have Hs := Lib.hid hs
  have ht1 := total_at hy0
  obtain ⟨L0, hL0⟩ : ∃ L, L = y0.gn s.V F s.code.length t := ⟨_, rfl⟩
  have ht2 := total_at hy1
  obtain ⟨L1, hL1⟩ : ∃ L, L = y1.gn s.V F (s.code.length + L0.length) (t + 1) := ⟨_, rfl⟩
  have hgn : x.gn s.V F s.code.length t = L0 ++ L1 ++ gnTwo x.kind t := by rw [Ex.gn_eq]; simp only [gnOf, if_neg n1, if_neg n2, if_neg n3, if_neg n4, if_neg n5, if_neg n6, if_neg n18, if_neg n19, if_neg n20, gns_at hy0, gns_at hy1]; rw [hL1, hL0]
  have hsum : y0.total + y1.total ≤ Ex.totals x.args := by
    have h1 : Ex.totals (x.args.take 1) = 0 + y0.total := Ex.totals_take (l := x.args) (i := 0) hy0
    have h3 : Ex.totals (x.args.take 2) = Ex.totals (x.args.take 1) + y1.total := Ex.totals_take (l := x.args) (i := 1) hy1
    have h4 := Ex.totals_le (l := x.args) 2
    omega
  rw [hgn] at hl ⊢
  simp only [List.length_append] at hl
  obtain ⟨i0, i1, i2, i3⟩ := (hP0 y0 hy0).later HB1.out hb'
  simp only [Nat.zero_mul, Nat.add_zero] at i0 i1 i2 i3
  have hlen0 : 0 < k := by omega
  have hlen1 : 1 < k := by omega
  have htw : 1 ≤ (gnTwo x.kind t).length ∧ (gnTwo x.kind t).length ≤ 2 := by unfold gnTwo; constructor <;> (repeat' split) <;> simp
  have Hy := Lib.hid (And.intro (hih 0 y0 hy0) (And.intro (hih 1 y1 hy1) (And.intro (hP1 y1 hy1) hb')))
  have Hl := Lib.hid (And.intro hl hL0)
  have Hl1 := Lib.hid (And.intro hL1 htw)
  have y0p : 1 ≤ y0.total := by have := y0.total_eq; omega
  have Ht := Lib.hid (show 0 ≤ t ∧ t + (y0.total : Int) ≤ 1000000 ∧ t ≤ 1000000 ∧ t + 1 + (y1.total : Int) ≤ 1000000 by omega)
  have q1 : (x.kind == 1) = false := by simp [n1]
  have q2 : (x.kind == 2) = false := by simp [n2]
  have q3 : (x.kind == 3) = false := by simp [n3]
  have q4 : (x.kind == 4) = false := by simp [n4]
  have q5 : (x.kind == 5) = false := by simp [n5]
  have q6 : (x.kind == 6) = false := by simp [n6]
  have q18 : (x.kind == 18) = false := by simp [n18]
  have q19 : (x.kind == 19) = false := by simp [n19]
  have q20 : (x.kind == 20) = false := by simp [n20]
  clear hB hwB h ht0 ht hl hX hW1 hb1 htx hs hgn hrow hih hkl h2 hP0 hP1 hb' ht1 ht2 hL0 hL1 hy0 hy1 hsum htw y0p n1 n2 n3 n4 n5 n6 n18 n19 n20
  unfold exVal
  go_enter Tryd.func22, Tryd.ntmps22
  go_upto_region 1 with (fail)
  rw [← HW.out.1, ← HW.out.2.1]
  go_wp2_with fail
  have hp := Hy.out.1 W1 B m F N s t HB1.out Hw.out H1.out Ht.out.1 Ht.out.2.1 (by rw [← Hl.out.2]; have := Hl.out.1; omega)
  rw [← Hl.out.2] at hp
  unfold exVal at hp
  refine hp.mono ?_
  rintro E w2 ⟨rfl, m2, hM2, hG2⟩
  clear hp i0 i1 i2 i3
  have x02 := (hG2.cell (p := ⟨X, 0, none⟩) qX HmT.out).trans x0
  have x32 := (hG2.cell (p := ⟨X, 3, none⟩) qX HmT.out).trans x3
  have HX2 := Lib.hid (And.intro (hG2.block qX HmT.out).2 (Nat.lt_of_lt_of_le qX hG2.oth.size))
  have H2 := Lib.hid (And.intro hM2 hG2)
  have HB2 : Hid (Below w0.heap.size w0 w2) := hG2.below HB1.out fun k e => Nat.le_trans Hw.out (Hmlo.out k e)
  obtain ⟨i0, i1, i2, i3⟩ := Hy.out.2.2.1.later HB2.out Hy.out.2.2.2
  simp only [Nat.one_mul] at i0 i1 i2 i3
  clear hM2 hG2 x0 x1 x2 x3
  go_wp2_with fail
  have hp := Hy.out.2.1 w2 B m2 F N _ (t + 1) HB2.out Hw.out H2.out.1 (by have := Ht.out; omega) Ht.out.2.2.2 (by rw [GS.add_len, show (s.add L0).V = s.V from rfl, ← Hl1.out.1]; have := Hl.out.1; omega)
  rw [H2.out.2.b, GS.add_len, show (s.add L0).V = s.V from rfl, ← Hl1.out.1, GS.add_add] at hp
  unfold exVal at hp
  refine hp.mono ?_
  rintro E w3 ⟨rfl, m3, hM3, hG3⟩
  clear hp i0 i1 i2 i3
  have x03 := (hG3.cell (p := ⟨X, 0, none⟩) HX2.out.2 HX2.out.1).trans x02
  have H3 := Lib.hid (And.intro hM3 (H2.out.2.trans hG3))
  clear hM3 hG3 x02 x32
  go_wp2_with fail
  have hp := gtwo_any x.kind t ⟨Ht.out.1, Ht.out.2.2.1⟩ w3 B m3 F N _ H3.out.1 (by rw [GS.add_len, List.length_append]; have := Hl.out.1; have := Hl1.out.2; omega)
  rw [H3.out.2.b, GS.add_add] at hp
  refine hp.mono ?_
  rintro E w4 ⟨rfl, m4, hM4, hG4⟩
  clear hp
  have H4 := Lib.hid (And.intro hM4 hG4)
  clear hM4 hG4
  go_wp2_with fail
  refine bodyPost_end (results_none rfl _ _ _) rfl ?_
  exact ⟨rfl, m4, H4.out.1, (GStep.of_below m HW.out.2.2).trans (H3.out.2.trans H4.out.2)⟩
set_option maxRecDepth 100000 in
set_option maxHeartbeats 4000000 in
theorem gx_and (x : Ex) (hk : x.kind = 18) (hs : x.name.size ≤ 16) (w0 : World) (ad : Option Addr) (k cap : Nat) (vs : Nat → Value) (hkl : k = x.args.length) (h2 : 2 ≤ k) (hrow : RowOf w0 (.slice ad k cap) k 4 (fun b o i => ∀ y, x.args[i]? = some y → ExAt w0 b o y (vs i)))
    (hih : ∀ (i : Nat) y, x.args[i]? = some y → GxFor w0 y (vs i)) : GxFor w0 x (.slice ad k cap) := by
  intro W B m F N s t hB hwB h ht0 ht hl
  obtain ⟨X, hX⟩ : ∃ X, X = W.heap.size := ⟨_, rfl⟩
  obtain ⟨W1, hW1⟩ : ∃ W1, W1 = W.alloc (.cells #[.int .i64 x.kind, .int .i64 x.n, .string x.name, .slice ad k cap] 53) := ⟨_, rfl⟩
  have hb1 : Below W.heap.size W W1 := by rw [hW1]; exact (Below.refl _ _).alloc (Nat.le_refl _) _
  have x0 : W1.cell? ⟨X, 0, none⟩ = some (.int .i64 x.kind) := by rw [hW1, hX]; exact World.cell?_alloc_at _ _ _ _ rfl
  have x1 : W1.cell? ⟨X, 1, none⟩ = some (.int .i64 x.n) := by rw [hW1, hX]; exact World.cell?_alloc_at _ _ _ _ rfl
  have x2 : W1.cell? ⟨X, 2, none⟩ = some (.string x.name) := by rw [hW1, hX]; exact World.cell?_alloc_at _ _ _ _ rfl
  have x3 : W1.cell? ⟨X, 3, none⟩ = some (.slice ad k cap) := by rw [hW1, hX]; exact World.cell?_alloc_at _ _ _ _ rfl
  have qX := block_lt_of_cell x0
  have HmT : Hid (¬ m.T X) := fun e => by have := h.inT X e; omega
  have HB1 : Hid (Below w0.heap.size w0 W1) := hB.trans (hb1.mono hB.size)
  have htx := x.total_eq
  have hwt : wrap64 t = t := by unfold wrap64; omega
  have hwt1 : wrap64 (t + 1) = t + 1 := by unfold wrap64; omega
  have H1 := Lib.hid (h.later hb1)
  have HW := Lib.hid (And.intro hW1 (And.intro hX hb1))
  have Hmlo := Lib.hid h.low
  have Hw := Lib.hid hwB
  have Hs := Lib.hid hs
  have q1 : (x.kind == 1) = false := by simp [hk]
  have q2 : (x.kind == 2) = false := by simp [hk]
  have q3 : (x.kind == 3) = false := by simp [hk]
  have q4 : (x.kind == 4) = false := by simp [hk]
  have q5 : (x.kind == 5) = false := by simp [hk]
  have q6 : (x.kind == 6) = false := by simp [hk]
  have q18 : (x.kind == 18) = true := by simp [hk]
  have q19 : (x.kind == 19) = false := by simp [hk]
  have q20 : (x.kind == 20) = false := by simp [hk]
  have Hc := Lib.hid (land_any x hk w0 ad k cap vs hkl h2 hrow hih W1 B m F N s t HB1.out hwB H1.out ht0 ht hl)
  clear hB hwB h ht0 ht hl hX hW1 hb1 htx hs hk hkl h2 hrow hih
  unfold exVal
  go_enter Tryd.func22, Tryd.ntmps22
  go_upto_region 1 with (fail)
  rw [← HW.out.1, ← HW.out.2.1]
  go_wp2_with fail
  refine Hc.out.mono ?_
  rintro E w2 ⟨rfl, m2, hM2, hG2⟩
  have H2 := Lib.hid (And.intro hM2 hG2)
  clear hM2 hG2
  go_wp2_with fail
  refine bodyPost_end (results_none rfl _ _ _) rfl ?_
  exact ⟨rfl, m2, H2.out.1, (GStep.of_below m HW.out.2.2).trans H2.out.2⟩
set_option maxRecDepth 100000 in
set_option maxHeartbeats 4000000 in
theorem gx_or (x : Ex) (hk : x.kind = 19) (hs : x.name.size ≤ 16) (w0 : World) (ad : Option Addr) (k cap : Nat) (vs : Nat → Value) (hkl : k = x.args.length) (h2 : 2 ≤ k) (hrow : RowOf w0 (.slice ad k cap) k 4 (fun b o i => ∀ y, x.args[i]? = some y → ExAt w0 b o y (vs i)))
    (hih : ∀ (i : Nat) y, x.args[i]? = some y → GxFor w0 y (vs i)) : GxFor w0 x (.slice ad k cap) := by
  intro W B m F N s t hB hwB h ht0 ht hl
  obtain ⟨X, hX⟩ : ∃ X, X = W.heap.size := ⟨_, rfl⟩
  obtain ⟨W1, hW1⟩ : ∃ W1, W1 = W.alloc (.cells #[.int .i64 x.kind, .int .i64 x.n, .string x.name, .slice ad k cap] 53) := ⟨_, rfl⟩
  have hb1 : Below W.heap.size W W1 := by rw [hW1]; exact (Below.refl _ _).alloc (Nat.le_refl _) _
  have x0 : W1.cell? ⟨X, 0, none⟩ = some (.int .i64 x.kind) := by rw [hW1, hX]; exact World.cell?_alloc_at _ _ _ _ rfl
  have x1 : W1.cell? ⟨X, 1, none⟩ = some (.int .i64 x.n) := by rw [hW1, hX]; exact World.cell?_alloc_at _ _ _ _ rfl
  have x2 : W1.cell? ⟨X, 2, none⟩ = some (.string x.name) := by rw [hW1, hX]; exact World.cell?_alloc_at _ _ _ _ rfl
  have x3 : W1.cell? ⟨X, 3, none⟩ = some (.slice ad k cap) := by rw [hW1, hX]; exact World.cell?_alloc_at _ _ _ _ rfl
  have qX := block_lt_of_cell x0
  have HmT : Hid (¬ m.T X) := fun e => by have := h.inT X e; omega
  have HB1 : Hid (Below w0.heap.size w0 W1) := hB.trans (hb1.mono hB.size)
  have htx := x.total_eq
  have hwt : wrap64 t = t := by unfold wrap64; omega
  have hwt1 : wrap64 (t + 1) = t + 1 := by unfold wrap64; omega
  have H1 := Lib.hid (h.later hb1)
  have HW := Lib.hid (And.intro hW1 (And.intro hX hb1))
  have Hmlo := Lib.hid h.low
  have Hw := Lib.hid hwB
  have Hs := Lib.hid hs
  have q1 : (x.kind == 1) = false := by simp [hk]
  have q2 : (x.kind == 2) = false := by simp [hk]
  have q3 : (x.kind == 3) = false := by simp [hk]
  have q4 : (x.kind == 4) = false := by simp [hk]
  have q5 : (x.kind == 5) = false := by simp [hk]
  have q6 : (x.kind == 6) = false := by simp [hk]
  have q18 : (x.kind == 18) = false := by simp [hk]
  have q19 : (x.kind == 19) = true := by simp [hk]
  have q20 : (x.kind == 20) = false := by simp [hk]
  have Hc := Lib.hid (lor_any x hk w0 ad k cap vs hkl h2 hrow hih W1 B m F N s t HB1.out hwB H1.out ht0 ht hl)
  clear hB hwB h ht0 ht hl hX hW1 hb1 htx hs hk hkl h2 hrow hih
  unfold exVal
  go_enter Tryd.func22, Tryd.ntmps22
  go_upto_region 1 with (fail)
  rw [← HW.out.1, ← HW.out.2.1]
  go_wp2_with fail
  refine Hc.out.mono ?_
  rintro E w2 ⟨rfl, m2, hM2, hG2⟩
  have H2 := Lib.hid (And.intro hM2 hG2)
  clear hM2 hG2
  go_wp2_with fail
  refine bodyPost_end (results_none rfl _ _ _) rfl ?_
  exact ⟨rfl, m2, H2.out.1, (GStep.of_below m HW.out.2.2).trans H2.out.2⟩
set_option maxRecDepth 100000 in
set_option maxHeartbeats 4000000 in
theorem gx_choose (x : Ex) (hk : x.kind = 20) (hs : x.name.size ≤ 16) (w0 : World) (ad : Option Addr) (k cap : Nat) (vs : Nat → Value) (hkl : k = x.args.length) (h2 : 3 ≤ k) (hrow : RowOf w0 (.slice ad k cap) k 4 (fun b o i => ∀ y, x.args[i]? = some y → ExAt w0 b o y (vs i)))
    (hih : ∀ (i : Nat) y, x.args[i]? = some y → GxFor w0 y (vs i)) : GxFor w0 x (.slice ad k cap) := by
  intro W B m F N s t hB hwB h ht0 ht hl
  obtain ⟨X, hX⟩ : ∃ X, X = W.heap.size := ⟨_, rfl⟩
  obtain ⟨W1, hW1⟩ : ∃ W1, W1 = W.alloc (.cells #[.int .i64 x.kind, .int .i64 x.n, .string x.name, .slice ad k cap] 53) := ⟨_, rfl⟩
  have hb1 : Below W.heap.size W W1 := by rw [hW1]; exact (Below.refl _ _).alloc (Nat.le_refl _) _
  have x0 : W1.cell? ⟨X, 0, none⟩ = some (.int .i64 x.kind) := by rw [hW1, hX]; exact World.cell?_alloc_at _ _ _ _ rfl
  have x1 : W1.cell? ⟨X, 1, none⟩ = some (.int .i64 x.n) := by rw [hW1, hX]; exact World.cell?_alloc_at _ _ _ _ rfl
  have x2 : W1.cell? ⟨X, 2, none⟩ = some (.string x.name) := by rw [hW1, hX]; exact World.cell?_alloc_at _ _ _ _ rfl
  have x3 : W1.cell? ⟨X, 3, none⟩ = some (.slice ad k cap) := by rw [hW1, hX]; exact World.cell?_alloc_at _ _ _ _ rfl
  have qX := block_lt_of_cell x0
  have HmT : Hid (¬ m.T X) := fun e => by have := h.inT X e; omega
  have HB1 : Hid (Below w0.heap.size w0 W1) := hB.trans (hb1.mono hB.size)
  have htx := x.total_eq
  have hwt : wrap64 t = t := by unfold wrap64; omega
  have hwt1 : wrap64 (t + 1) = t + 1 := by unfold wrap64; omega
  have H1 := Lib.hid (h.later hb1)
  have HW := Lib.hid (And.intro hW1 (And.intro hX hb1))
  have Hmlo := Lib.hid h.low
  have Hw := Lib.hid hwB
  have Hs := Lib.hid hs
  have q1 : (x.kind == 1) = false := by simp [hk]
  have q2 : (x.kind == 2) = false := by simp [hk]
  have q3 : (x.kind == 3) = false := by simp [hk]
  have q4 : (x.kind == 4) = false := by simp [hk]
  have q5 : (x.kind == 5) = false := by simp [hk]
  have q6 : (x.kind == 6) = false := by simp [hk]
  have q18 : (x.kind == 18) = false := by simp [hk]
  have q19 : (x.kind == 19) = false := by simp [hk]
  have q20 : (x.kind == 20) = true := by simp [hk]
  have Hc := Lib.hid (choice_any x hk w0 ad k cap vs hkl h2 hrow hih W1 B m F N s t HB1.out hwB H1.out ht0 ht hl)
  clear hB hwB h ht0 ht hl hX hW1 hb1 htx hs hk hkl h2 hrow hih
  unfold exVal
  go_enter Tryd.func22, Tryd.ntmps22
  go_upto_region 1 with (fail)
  rw [← HW.out.1, ← HW.out.2.1]
  go_wp2_with fail
  refine Hc.out.mono ?_
  rintro E w2 ⟨rfl, m2, hM2, hG2⟩
  have H2 := Lib.hid (And.intro hM2 hG2)
  clear hM2 hG2
  go_wp2_with fail
  refine bodyPost_end (results_none rfl _ _ _) rfl ?_
  exact ⟨rfl, m2, H2.out.1, (GStep.of_below m HW.out.2.2).trans H2.out.2⟩
set_option maxRecDepth 100000 in
set_option maxHeartbeats 4000000 in
theorem gx_index (x : Ex) (hk : x.kind = 3) (hs : x.name.size ≤ 16) (w0 : World) (ad : Option Addr) (k cap : Nat) (vs : Nat → Value) (hkl : k = x.args.length) (h2 : 1 ≤ k) (hrow : RowOf w0 (.slice ad k cap) k 4 (fun b o i => ∀ y, x.args[i]? = some y → ExAt w0 b o y (vs i)))
    (hih : ∀ (i : Nat) y, x.args[i]? = some y → GxFor w0 y (vs i)) : GxFor w0 x (.slice ad k cap) := by
  intro W B m F N s t hB hwB h ht0 ht hl
  obtain ⟨y0, hy0⟩ : ∃ y, x.args[0]? = some y := ⟨_, List.getElem?_eq_getElem (by omega)⟩
  obtain ⟨b', off, rfl, hb', hP0⟩ := hrow.at (i := 0) (by omega)
  obtain ⟨X, hX⟩ : ∃ X, X = W.heap.size := ⟨_, rfl⟩
  obtain ⟨W1, hW1⟩ : ∃ W1, W1 = W.alloc (.cells #[.int .i64 x.kind, .int .i64 x.n, .string x.name, .slice (some ⟨b', off, none⟩) k cap] 53) := ⟨_, rfl⟩
  have hb1 : Below W.heap.size W W1 := by rw [hW1]; exact (Below.refl _ _).alloc (Nat.le_refl _) _
  have x0 : W1.cell? ⟨X, 0, none⟩ = some (.int .i64 x.kind) := by rw [hW1, hX]; exact World.cell?_alloc_at _ _ _ _ rfl
  have x1 : W1.cell? ⟨X, 1, none⟩ = some (.int .i64 x.n) := by rw [hW1, hX]; exact World.cell?_alloc_at _ _ _ _ rfl
  have x2 : W1.cell? ⟨X, 2, none⟩ = some (.string x.name) := by rw [hW1, hX]; exact World.cell?_alloc_at _ _ _ _ rfl
  have x3 : W1.cell? ⟨X, 3, none⟩ = some (.slice (some ⟨b', off, none⟩) k cap) := by rw [hW1, hX]; exact World.cell?_alloc_at _ _ _ _ rfl
  have qX := block_lt_of_cell x0
  have HmT : Hid (¬ m.T X) := fun e => by have := h.inT X e; omega
  have HB1 : Hid (Below w0.heap.size w0 W1) := hB.trans (hb1.mono hB.size)
  have htx := x.total_eq
  have hwt : wrap64 t = t := by unfold wrap64; omega
  have hwt1 : wrap64 (t + 1) = t + 1 := by unfold wrap64; omega
  have H1 := Lib.hid (h.later hb1)
  have HW := Lib.hid (And.intro hW1 (And.intro hX hb1))
  have Hmlo := Lib.hid h.low
  have Hw := Lib.hid hwB
  have Hs := Lib.hid hs
  have ht1 := total_at hy0
  obtain ⟨L0, hL0⟩ : ∃ L, L = y0.gn s.V F s.code.length t := ⟨_, rfl⟩
  have hgn : x.gn s.V F s.code.length t = L0 ++ [⟨13, t, 0, 0, (s.V x.name).size⟩, ⟨11, t, t, 0, (s.V x.name).off⟩] := by rw [Ex.gn_eq]; simp only [gnOf, hk, gns_at hy0, hL0]; rfl
  rw [hgn] at hl ⊢
  simp only [List.length_append, List.length_cons, List.length_nil] at hl
  have hlen0 : 0 < k := by omega
  have Hy := Lib.hid (And.intro (hih 0 y0 hy0) (And.intro (hP0 y0 hy0) hb'))
  have Hl := Lib.hid (And.intro hl hL0)
  have Ht := Lib.hid (show 0 ≤ t ∧ t + (y0.total : Int) ≤ 1000000 ∧ t ≤ 1000000 by omega)
  have qb := h.in
  have q1 : (x.kind == 1) = false := by simp [hk]
  have q2 : (x.kind == 2) = false := by simp [hk]
  have q3 : (x.kind == 3) = true := by simp [hk]
  have q4 : (x.kind == 4) = false := by simp [hk]
  have q5 : (x.kind == 5) = false := by simp [hk]
  have q6 : (x.kind == 6) = false := by simp [hk]
  have q18 : (x.kind == 18) = false := by simp [hk]
  have q19 : (x.kind == 19) = false := by simp [hk]
  have q20 : (x.kind == 20) = false := by simp [hk]
  clear hB hwB h ht0 ht hl hX hW1 hb1 htx hs hk hgn hrow hih hkl h2 hP0 hb' ht1 hL0 hy0
  unfold exVal
  go_enter Tryd.func22, Tryd.ntmps22
  go_upto_region 1 with (fail)
  rw [← HW.out.1, ← HW.out.2.1]
  go_upto_region 10 with (fail)
  obtain ⟨pr, hpr⟩ : ∃ z, z = s.V x.name := ⟨_, rfl⟩
  refine wp_region_heldZ (S := fun w => w.cell? ⟨m.b, 2, none⟩ = some (.map (some m.v)) ∧ w.cell? ⟨X, 2, none⟩ = some (.string x.name) ∧ (Instr.lookup 62 (.map (some m.v)) (.string x.name) false).run Tryd.prog w = .ok (.agg #[.int .i64 pr.reg, .int .i64 pr.off, .int .i64 pr.size]) w) (z := 8) rfl ?_
  change wpAnyZ _ _ _ _ _ _ _ _ _ W1.drew
  obtain ⟨W0, hW0⟩ : ∃ W0, W0 = W1.drew := ⟨_, rfl⟩
  rw [← hW0]
  have hb0 : Below W1.heap.size W1 W0 := by rw [hW0]; exact (Below.refl _ _).drew
  have HM0 := Lib.hid (H1.out.later hb0)
  have hx20 := (hb0.cell (p := ⟨X, 2, none⟩) qX).trans x2
  have Hb : Hid (W0.cell? ⟨m.b, 2, none⟩ = some (.map (some m.v)) ∧ W0.cell? ⟨X, 2, none⟩ = some (.string x.name) ∧ (Instr.lookup 62 (.map (some m.v)) (.string x.name) false).run Tryd.prog W0 = .ok (.agg #[.int .i64 pr.reg, .int .i64 pr.off, .int .i64 pr.size]) W0) :=
    ⟨HM0.out.c2, hx20, by rw [hpr]; exact HM0.out.lookV x.name Hs.out⟩
  have Hg0 := Lib.hid (And.intro hb0 (And.intro hx20 hpr))
  obtain ⟨W8, hW8⟩ : ∃ W8, W8 = W0.alloc (.cells #[.int .i64 pr.reg, .int .i64 pr.off, .int .i64 pr.size] 67) := ⟨_, rfl⟩
  obtain ⟨Y, hY⟩ : ∃ Y, Y = W0.heap.size := ⟨_, rfl⟩
  have hb8 : Below W0.heap.size W0 W8 := by rw [hW8]; exact (Below.refl _ _).alloc (Nat.le_refl _) _
  have y1' : W8.cell? ⟨Y, 1, none⟩ = some (.int .i64 pr.off) := by rw [hW8, hY]; exact World.cell?_alloc_at _ _ _ _ rfl
  have y2' : W8.cell? ⟨Y, 2, none⟩ = some (.int .i64 pr.size) := by rw [hW8, hY]; exact World.cell?_alloc_at _ _ _ _ rfl
  have hb18 : Below W1.heap.size W1 W8 := hb0.trans (hb8.mono hb0.size)
  have x38 := (hb18.cell (p := ⟨X, 3, none⟩) qX).trans x3
  have HB8 : Hid (Below w0.heap.size w0 W8) := HB1.out.trans (hb18.mono HB1.out.size)
  have HYT : Hid (¬ m.T Y) := fun e => by have := HM0.out.inT Y e; omega
  have H8 := Lib.hid (And.intro (H1.out.later hb18) (And.intro hb18 (And.intro hW8 hY)))
  have qY := block_lt_of_cell y1'
  clear hb0 hx20 hpr hW0 x0 x1 x2 x3 hb8 hb18 hW8 hY
  refine wpAnyZ_take (i := 0) (by simp only [List.getElem?_toArray, List.getElem?_cons_zero]; rfl) (by kernel_rfl) (by kernel_rfl) (by kernel_rfl) (by kernel_rfl) (by intro _ _ _ h; exact h) (Or.inl ⟨by rfl, fun w hw => by (obtain ⟨k0, k1, k2⟩ := hw; go_simp; try rfl)⟩) Hb.out ?_
  refine wpAnyZ_take (i := 1) (by simp only [List.getElem?_toArray, List.getElem?_cons_succ, List.getElem?_cons_zero]; rfl) (by kernel_rfl) (by kernel_rfl) (by kernel_rfl) (by kernel_rfl) (by intro _ _ _ h; exact h) (Or.inl ⟨by rfl, fun w hw => by (obtain ⟨k0, k1, k2⟩ := hw; go_simp; try rfl)⟩) Hb.out ?_
  go_frame
  refine wpAnyZ_take (i := 2) (by simp only [List.getElem?_toArray, List.getElem?_cons_succ, List.getElem?_cons_zero]; rfl) (by kernel_rfl) (by kernel_rfl) (by kernel_rfl) (by kernel_rfl) (by intro _ _ _ h; exact h) (Or.inl ⟨by rfl, fun w hw => by (obtain ⟨k0, k1, k2⟩ := hw; go_simp; try rfl)⟩) Hb.out ?_
  refine wpAnyZ_take (i := 3) (by simp only [List.getElem?_toArray, List.getElem?_cons_succ, List.getElem?_cons_zero]; rfl) (by kernel_rfl) (by kernel_rfl) (by kernel_rfl) (by kernel_rfl) (by intro _ _ _ h; exact h) (Or.inl ⟨by rfl, fun w hw => by (obtain ⟨k0, k1, k2⟩ := hw; go_simp; try rfl)⟩) Hb.out ?_
  go_frame
  refine wpAnyZ_take (i := 4) (by simp only [List.getElem?_toArray, List.getElem?_cons_succ, List.getElem?_cons_zero]; rfl) (by kernel_rfl) (by kernel_rfl) (by kernel_rfl) (by kernel_rfl) (by intro _ _ _ h; exact h) (Or.inl ⟨by rfl, fun w hw => by (obtain ⟨k0, k1, k2⟩ := hw; go_simp; try rfl)⟩) Hb.out ?_
  refine wpAnyZ_take (i := 5) (by simp only [List.getElem?_toArray, List.getElem?_cons_succ, List.getElem?_cons_zero]; rfl) (by kernel_rfl) (by kernel_rfl) (by kernel_rfl) (by kernel_rfl) (by intro _ _ _ h; exact h) (Or.inl ⟨by rfl, fun w hw => by (obtain ⟨k0, k1, k2⟩ := hw; go_simp; try rfl)⟩) Hb.out ?_
  go_frame
  refine wpAnyZ_take (i := 6) (by simp only [List.getElem?_toArray, List.getElem?_cons_succ, List.getElem?_cons_zero]; rfl) (by kernel_rfl) (by kernel_rfl) (by kernel_rfl) (by kernel_rfl) (by intro _ _ _ h; exact h) (Or.inl ⟨by rfl, fun w hw => by (obtain ⟨k0, k1, k2⟩ := hw; go_simp; try rfl)⟩) Hb.out ?_
  go_frame
  refine wpAnyZ_next (i := 7) (by kernel_rfl) (by simp only [List.getElem?_toArray, List.getElem?_cons_succ, List.getElem?_cons_zero]; rfl) (fun Kc hKc => ?_)
  go_simp
  have ha : Below W0.heap.size W0 (W0.alloc (.cells #[.int .i64 0, .int .i64 0, .int .i64 0] 67)) := (Below.refl _ _).alloc (Nat.le_refl _) _
  have hMa := HM0.out.later ha
  have HSa : Hid ((W0.alloc (.cells #[.int .i64 0, .int .i64 0, .int .i64 0] 67)).cell? ⟨m.b, 2, none⟩ = some (.map (some m.v)) ∧ (W0.alloc (.cells #[.int .i64 0, .int .i64 0, .int .i64 0] 67)).cell? ⟨X, 2, none⟩ = some (.string x.name) ∧ (Instr.lookup 62 (.map (some m.v)) (.string x.name) false).run Tryd.prog (W0.alloc (.cells #[.int .i64 0, .int .i64 0, .int .i64 0] 67)) = .ok (.agg #[.int .i64 pr.reg, .int .i64 pr.off, .int .i64 pr.size]) (W0.alloc (.cells #[.int .i64 0, .int .i64 0, .int .i64 0] 67))) :=
    ⟨hMa.c2, (ha.cell (p := ⟨X, 2, none⟩) (Nat.lt_of_lt_of_le qX Hg0.out.1.size)).trans Hg0.out.2.1, by rw [Hg0.out.2.2]; exact hMa.lookV x.name Hs.out⟩
  refine hKc.out _ _ (fun _ => HSa.out) ?_
  clear hKc Kc ha hMa
  try go_frame
  refine wpAnyZ_next (i := 8) (by kernel_rfl) (by simp only [List.getElem?_toArray, List.getElem?_cons_succ, List.getElem?_cons_zero]; rfl) (fun Kc hKc => ?_)
  go_simp
  rw [← H8.out.2.2.2, ← H8.out.2.2.1]
  refine hKc.out _ _ (fun h => absurd rfl h) ?_
  clear hKc Kc
  refine wpAnyZ_done (by kernel_rfl) ?_ _
  obtain ⟨i0, i1, i2, i3⟩ := Hy.out.2.1.later HB8.out Hy.out.2.2
  simp only [Nat.zero_mul, Nat.add_zero] at i0 i1 i2 i3
  go_wp2_with fail
  have hp := Hy.out.1 W8 B m F N s t HB8.out Hw.out H8.out.1 Ht.out.1 Ht.out.2.1 (by rw [← Hl.out.2]; have := Hl.out.1; omega)
  rw [← Hl.out.2] at hp
  unfold exVal at hp
  refine hp.mono ?_
  rintro E w2 ⟨rfl, m2, hM2, hG2⟩
  clear hp i0 i1 i2 i3
  have y12 := (hG2.cell (p := ⟨Y, 1, none⟩) qY HYT.out).trans y1'
  have y22 := (hG2.cell (p := ⟨Y, 2, none⟩) qY HYT.out).trans y2'
  have HY2 := Lib.hid (And.intro (hG2.block qY HYT.out).2 (Nat.lt_of_lt_of_le qY hG2.oth.size))
  have H2 := Lib.hid (And.intro hM2 hG2)
  clear hM2 hG2 y1' y2' x38
  go_wp2_with fail
  have hp := put_any ⟨13, t, 0, 0, pr.size⟩ (regs3 (by have := Ht.out; omega) zero12 zero12 _ _) w2 B m2 F N _ H2.out.1 (by rw [GS.add_len]; have := Hl.out.1; omega)
  rw [H2.out.2.b, GS.add_add] at hp
  refine hp.mono ?_
  rintro E w3 ⟨rfl, m3, hM3, hG3⟩
  clear hp
  have y13 := (hG3.cell (p := ⟨Y, 1, none⟩) HY2.out.2 HY2.out.1).trans y12
  have H3 := Lib.hid (And.intro hM3 (H2.out.2.trans hG3))
  clear hM3 hG3 y12 y22
  go_wp2_with fail
  have hp := put_any ⟨11, t, t, 0, pr.off⟩ (regs3 (by have := Ht.out; omega) (by have := Ht.out; omega) zero12 _ _) w3 B m3 F N _ H3.out.1 (by rw [GS.add_len, List.length_append]; simp only [List.length_cons, List.length_nil]; have := Hl.out.1; omega)
  rw [H3.out.2.b, GS.add_add] at hp
  refine hp.mono ?_
  rintro E w4 ⟨rfl, m4, hM4, hG4⟩
  clear hp y13
  have H4 := Lib.hid (And.intro hM4 hG4)
  clear hM4 hG4
  go_wp2_with fail
  refine bodyPost_end (results_none rfl _ _ _) rfl ?_
  exact ⟨rfl, m4, by have h1 := H4.out.1; rw [List.append_assoc] at h1; rw [← Hg0.out.2.2]; exact h1, (GStep.of_below m HW.out.2.2).trans ((GStep.of_below m H8.out.2.1).trans (H3.out.2.trans H4.out.2))⟩
end Go.Proofs.YtgobcldecokppaaDoor
