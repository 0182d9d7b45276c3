/- gen: an instruction is laid down; one that leads on; the plain words. -/
import Derived.Test.YtgobcldecokppaaDoorGnMem
import Derived.Deep.RegionHeld3
import Derived.Defers
namespace Go.Proofs.YtgobcldecokppaaDoor
open Go.RowKit Go.Maps

def insV (x : Ins) : Value := .agg #[.int .i64 x.op, .int .i64 x.a, .int .i64 x.b, .int .i64 x.c, .int .i64 x.n]
theorem row_shape {w : World} {B : Nat} {e : TypeId} {size : Nat} {v : Value} {n : Nat} {xs : List Value} (h : w.ownsRow B e size v n xs) : ∃ a l c, v = .slice a l c := by
  rcases h.2 with ⟨rfl, _⟩ | ⟨g, cap, cur, rfl, _⟩
  · exact ⟨none, 0, 0, rfl⟩
  · exact ⟨_, _, _, rfl⟩
set_option maxRecDepth 100000 in
set_option maxHeartbeats 2000000 in
theorem use_any (Z : Nat) (x0 x1 x2 : Int) (w : World) (B : Nat) (m : Mk) (F : ByteArray → Int) (N : Nat) (s : GS) (h : MkAt w B m F N s)
    (hZ : w.cell? ⟨Z, 0, none⟩ = some (.int .i64 x0) ∧ w.cell? ⟨Z, 1, none⟩ = some (.int .i64 x1) ∧ w.cell? ⟨Z, 2, none⟩ = some (.int .i64 x2)) (hZb : Z ≠ m.b) (hx : (0 ≤ x0 ∧ x0 ≤ 1000000000000) ∧ (0 ≤ x1 ∧ x1 ≤ 1000000000000) ∧ (0 ≤ x2 ∧ x2 ≤ 1000000000000)) :
    Calls Tryd.prog 24 #[ptrV m.b, .slice (some ⟨Z, 0, none⟩) 3 3] w (fun E w' => E = .returned (.tuple #[]) ∧ MkAt w' B m F N { s with regs := useR s.regs [x0, x1, x2] } ∧ Oth (· = m.b) w w') := by
  have H := Lib.hid h
  have HZ := Lib.hid (And.intro hZ (And.intro hZb hx))
  clear h hZ hZb hx
  go_enter Tryd.func24, Tryd.ntmps24
  go_wp2_with fail
  go_loopg [8] 3 (fun g iv wx => ∃ i : Nat, g = 3 - i ∧ iv = .int .i64 (i : Int) ∧ i ≤ 3 ∧ MkAt wx B m F N { s with regs := useR s.regs ([x0, x1, x2].take i) } ∧ Oth (· = m.b) w wx)
  case atStart => exact ⟨0, rfl, rfl, Nat.zero_le _, H.out, Oth.refl _ _⟩
  case round =>
    obtain ⟨i, hg, rfl, hi, hM, hO⟩ := hrel
    by_cases hin : i < 3
    · obtain ⟨y, hy⟩ : ∃ y, [x0, x1, x2][i]? = some y := ⟨_, List.getElem?_eq_getElem (by simpa using hin)⟩
      have hyb : 0 ≤ y ∧ y ≤ 1000000000000 := by
        have h1 := HZ.out.2.2
        match i, hin, hy with
        | 0, _, hy => simp at hy; subst hy; exact h1.1
        | 1, _, hy => simp at hy; subst hy; exact h1.2.1
        | 2, _, hy => simp at hy; subst hy; exact h1.2.2
      have k3 : wr.cell? ⟨Z, i, none⟩ = some (.int .i64 y) := by
        have h1 := HZ.out.1
        match i, hin, hy with
        | 0, _, hy => simp at hy; subst hy; exact (hO.cell (p := ⟨Z, 0, none⟩) (block_lt_of_cell h1.1) HZ.out.2.1).trans h1.1
        | 1, _, hy => simp at hy; subst hy; exact (hO.cell (p := ⟨Z, 1, none⟩) (block_lt_of_cell h1.2.1) HZ.out.2.1).trans h1.2.1
        | 2, _, hy => simp at hy; subst hy; exact (hO.cell (p := ⟨Z, 2, none⟩) (block_lt_of_cell h1.2.2) HZ.out.2.1).trans h1.2.2
      have Hnx : Hid (useR s.regs ([x0, x1, x2].take (i + 1)) = if y + 1 > useR s.regs ([x0, x1, x2].take i) then y + 1 else useR s.regs ([x0, x1, x2].take i)) := by
        show _ = _
        rw [take_next hy]
        simp [useR]
      obtain ⟨r, hr⟩ : ∃ r, r = useR s.regs ([x0, x1, x2].take i) := ⟨_, rfl⟩
      rw [← hr] at hM Hnx
      have c3 := hM.c3
      have f3 := hM.fr 3
      have hw1 : wrap64 (y + 1) = y + 1 := by unfold wrap64; omega
      have Hg := Lib.hid (And.intro hg hr)
      have hin2 : (i : Int) < 3 := by omega
      have hd1 : decide ((i : Int) < 3) = true := decide_eq_true hin2
      have hd2 : decide (i < 3) = true := decide_eq_true hin
      by_cases hgt : y + 1 > r
      · have hgt2 : r < y + 1 := hgt
        have Hz : Hid ((if y + 1 > r then y + 1 else r) = y + 1) := if_pos hgt
        have Hs := Lib.hid (And.intro (hM.set3 (y + 1)).1 (hO.set (p := ⟨m.b, 3, none⟩) rfl (.int .i64 (y + 1))))
        have hgt3 : r ≤ y := by omega
        clear hM hO hg hr hy hyb
        go_wp2_with fail
        go_roundg (3 - (i + 1))
        case measure => have := Hg.out.1; omega
        case rel => exact ⟨i + 1, rfl, by go_num, hin, by rw [Hnx.out, Hz.out]; exact Hs.out.1, Hs.out.2⟩
      · have hgt2 : ¬ r < y + 1 := hgt
        have Hz : Hid ((if y + 1 > r then y + 1 else r) = r) := if_neg hgt
        have Hs := Lib.hid (And.intro (hM.set3 (r)).1 (hO.set (p := ⟨m.b, 3, none⟩) rfl (.int .i64 (r))))
        have hgt3 : ¬ r ≤ y := by omega
        clear hM hO hg hr hy hyb
        go_wp2_with fail
        go_roundg (3 - (i + 1))
        case measure => have := Hg.out.1; omega
        case rel => exact ⟨i + 1, rfl, by go_num, hin, by rw [Hnx.out, Hz.out]; exact Hs.out.1, Hs.out.2⟩
    · obtain rfl : i = 3 := by omega
      have HM := Lib.hid (And.intro hM hO)
      clear hin hM hO
      go_wp2_with fail
      refine bodyPost_end (results_none rfl _ _ _) rfl ?_
      exact ⟨rfl, HM.out.1, HM.out.2⟩
/-- append of one instruction, within a region that draws its order. -/
theorem append_ins_wp {o : Oper} {a : Act} {Kc : Act → World → Prop} {Q : Exit → Act → World → Prop} {w : World} (s x : Operand)
    (ho : o.op = .call { callee := .builtin .append, args := #[s, x], argTypes := #[42, 42] })
    (B : Nat) (v : Value) (l : List Ins) (hs : a.eval s = v) (hown : OwnIns w B v l) (y : Ins) (Z : Nat) (hx : a.eval x = .slice (some ⟨Z, 0, none⟩) 1 1)
    (hZ : (w.cell? ⟨Z, 0, none⟩ = some (.int .i64 y.op) ∧ w.cell? ⟨Z, 1, none⟩ = some (.int .i64 y.a) ∧ w.cell? ⟨Z, 2, none⟩ = some (.int .i64 y.b) ∧ w.cell? ⟨Z, 3, none⟩ = some (.int .i64 y.c) ∧ w.cell? ⟨Z, 4, none⟩ = some (.int .i64 y.n)) ∧ Z < w.heap.size) (hl : l.length ≤ 1000000000000) (hB : B ≤ w.heap.size)
    (h : ∀ v' w', OwnIns w' B v' (l ++ [y]) → w.grownBy w' v.ownBlock → Fresh w v v' → Kc (a.put o.dst v') w') : o.wp Tryd.prog a w Kc Q := by
  have hsrc : SliceIn w (.slice (some ⟨Z, 0, none⟩) 1 1) 1 5 y.cells := ⟨rfl, _, _, rfl, Nat.le_refl _, by decide, by simp, fun _ => ⟨_, 0, rfl, hZ.2, fun o u h => by
    rw [Nat.zero_add]
    unfold Ins.cells at h
    match o, h with
    | 0, h => simp at h; subst h; exact hZ.1.1
    | 1, h => simp at h; subst h; exact hZ.1.2.1
    | 2, h => simp at h; subst h; exact hZ.1.2.2.1
    | 3, h => simp at h; subst h; exact hZ.1.2.2.2.1
    | 4, h => simp at h; subst h; exact hZ.1.2.2.2.2
    | o + 5, h => simp at h⟩⟩
  have hone : ∀ u ∈ y.cells, u.oneCell' = true := by intro u hu; simp [Ins.cells] at hu; rcases hu with rfl | rfl | rfl | rfl | rfl <;> rfl
  obtain ⟨v', w', hr, h2, h3, h4⟩ := append_run (ty := o.type) Tryd.underlying42 Tryd.infoIns0 rfl (by decide) B v l.length (l.flatMap Ins.cells) hown _ 1 y.cells hsrc hone (by unfold maxLen; omega) (by omega) hB
  unfold Oper.wp execOp
  simp only [ho, resolve, invoke, builtin, Sem.run_bind, Sem.run_pure, Result.andThen_ok, List.map_toArray, List.map_cons, List.map_nil, hs, hx, hr]
  exact h v' w' (by unfold OwnIns at *; simpa using h2) h3 h4
theorem regsOf_one (r : Int) (x : Ins) : regsOf r [x] = useR r [x.a, x.b, x.c] := rfl
/-- What may stand in a register's field. -/
def Ins.regs (x : Ins) : Prop := (0 ≤ x.a ∧ x.a ≤ 1000000000000) ∧ (0 ≤ x.b ∧ x.b ≤ 1000000000000) ∧ (0 ≤ x.c ∧ x.c ≤ 1000000000000)
set_option maxRecDepth 100000 in
set_option maxHeartbeats 4000000 in
theorem put_anyP (x : Ins) (hx : x.regs) (w : World) (B : Nat) (m : Mk) (F : ByteArray → Int) (N : Nat) (s : GS) (h : MkAt w B m F N s) (hl : s.code.length ≤ 1000000000000) :
    Calls Tryd.prog 11 #[ptrV m.b, insV x] w (fun E w' => E = .returned (.int .i64 (s.code.length : Int)) ∧ ∃ m', MkAt w' B m' F N (s.add [x]) ∧ GStep w m w' m' ∧ m'.pv = m.pv) := by
  obtain ⟨a, n, cap, hcv⟩ := row_shape h.code
  have hn : n = s.code.length := by have := h.code.1; rcases h.code.2 with ⟨e, e0⟩ | ⟨g, c2, cur, e, _⟩ <;> rw [hcv] at e <;> cases e <;> omega
  obtain ⟨X, hX⟩ : ∃ X, X = w.heap.size := ⟨_, rfl⟩
  obtain ⟨W1, hW1⟩ : ∃ W1, W1 = w.alloc (.cells #[.int .i64 x.op, .int .i64 x.a, .int .i64 x.b, .int .i64 x.c, .int .i64 x.n] 58) := ⟨_, rfl⟩
  have hb1 : Below w.heap.size w W1 := by rw [hW1]; exact (Below.refl _ _).alloc (Nat.le_refl _) _
  have x1 : W1.cell? ⟨X, 0, none⟩ = some (.int .i64 x.op) ∧ W1.cell? ⟨X, 1, none⟩ = some (.int .i64 x.a) ∧ W1.cell? ⟨X, 2, none⟩ = some (.int .i64 x.b) ∧ W1.cell? ⟨X, 3, none⟩ = some (.int .i64 x.c) ∧ W1.cell? ⟨X, 4, none⟩ = some (.int .i64 x.n) := by
    rw [hW1, hX]; exact ⟨World.cell?_alloc_at _ _ _ _ rfl, World.cell?_alloc_at _ _ _ _ rfl, World.cell?_alloc_at _ _ _ _ rfl, World.cell?_alloc_at _ _ _ _ rfl, World.cell?_alloc_at _ _ _ _ rfl⟩
  have qX1 := block_lt_of_cell x1.1
  obtain ⟨Z, hZ⟩ : ∃ Z, Z = W1.heap.size := ⟨_, rfl⟩
  obtain ⟨W2, hW2⟩ : ∃ W2, W2 = W1.alloc (.cells #[.int .i64 x.a, .int .i64 x.b, .int .i64 x.c] 3) := ⟨_, rfl⟩
  have hb2 : Below w.heap.size w W2 := by rw [hW2]; exact hb1.alloc hb1.size _
  have hb12 : Below W1.heap.size W1 W2 := by rw [hW2]; exact (Below.refl _ _).alloc (Nat.le_refl _) _
  have z2 : W2.cell? ⟨Z, 0, none⟩ = some (.int .i64 x.a) ∧ W2.cell? ⟨Z, 1, none⟩ = some (.int .i64 x.b) ∧ W2.cell? ⟨Z, 2, none⟩ = some (.int .i64 x.c) := by
    rw [hW2, hZ]; exact ⟨World.cell?_alloc_at _ _ _ _ rfl, World.cell?_alloc_at _ _ _ _ rfl, World.cell?_alloc_at _ _ _ _ rfl⟩
  have x2 := fun j => hb12.cell (p := ⟨X, j, none⟩) qX1
  have qm := h.in
  have hXm : X ≠ m.b := by omega
  have hZm : Z ≠ m.b := by have := hb1.size; omega
  have H := Lib.hid (And.intro h (And.intro hl hcv))
  have HX := Lib.hid (And.intro x1 (And.intro x2 (And.intro hX hx)))
  have hZs : Z = w.heap.size + 1 := by rw [hZ, hW1]; simp
  have HW := Lib.hid (And.intro hW1 (And.intro hW2 (And.intro hb2 hZs)))
  have Hz := Lib.hid (And.intro z2 hZm)
  have Hn := Lib.hid hn
  have qX2 : X < W2.heap.size := Nat.lt_of_lt_of_le qX1 hb12.size
  have x1' := x1
  obtain ⟨y0, y1, y2, y3, y4⟩ := x1'
  clear h hl hcv x1 x2 hX hx hW1 hW2 hb1 hb2 hb12 z2 hZ hZs hZm hn
  unfold insV
  go_enter Tryd.func11, Tryd.ntmps11
  go_wp2_with fail
  rw [← HW.out.1, ← HW.out.2.1, ← HW.out.2.2.2, ← HX.out.2.2.1]
  refine (use_any Z x.a x.b x.c W2 B m F N s (H.out.1.later HW.out.2.2.1) Hz.out.1 Hz.out.2 HX.out.2.2.2).mono ?_
  rintro E w3 ⟨rfl, hM3, hO3⟩
  have hxm : ¬ X = m.b := by have := HX.out.2.2.1; omega
  have x3 := fun j => (hO3.cell (p := ⟨X, j, none⟩) qX2 hxm).trans (HX.out.2.1 j)
  have Hx3 : Hid (w3.cell? ⟨X, 0, none⟩ = some (.int .i64 x.op) ∧ w3.cell? ⟨X, 1, none⟩ = some (.int .i64 x.a) ∧ w3.cell? ⟨X, 2, none⟩ = some (.int .i64 x.b) ∧ w3.cell? ⟨X, 3, none⟩ = some (.int .i64 x.c) ∧ w3.cell? ⟨X, 4, none⟩ = some (.int .i64 x.n)) :=
    ⟨(x3 0).trans y0, (x3 1).trans y1, (x3 2).trans y2, (x3 3).trans y3, (x3 4).trans y4⟩
  have qX3 : X < w3.heap.size := Nat.lt_of_lt_of_le qX2 hO3.size
  have H3 := Lib.hid (And.intro hM3 ((Oth.of_below (S := (· = m.b)) HW.out.2.2.1).trans hO3))
  clear y0 y1 y2 y3 y4 x3 hM3 hO3
  go_upto_region 2 with (fail)
  refine wp_region_heldZ (S := fun w => w.cell? ⟨m.b, 0, none⟩ = some (.slice a n cap) ∧ w.cell? ⟨X, 0, none⟩ = some (.int .i64 x.op) ∧ w.cell? ⟨X, 1, none⟩ = some (.int .i64 x.a) ∧ w.cell? ⟨X, 2, none⟩ = some (.int .i64 x.b) ∧ w.cell? ⟨X, 3, none⟩ = some (.int .i64 x.c) ∧ w.cell? ⟨X, 4, none⟩ = some (.int .i64 x.n)) (z := 10) rfl ?_
  change wpAnyZ _ _ _ _ _ _ _ _ _ w3.drew
  obtain ⟨W0, hW0⟩ : ∃ W0, W0 = w3.drew := ⟨_, rfl⟩
  rw [← hW0]
  have hb0 : Below w3.heap.size w3 W0 := by rw [hW0]; exact (Below.refl _ _).drew
  have xk : ∀ (W : World), Below w3.heap.size w3 W → W.cell? ⟨X, 0, none⟩ = some (.int .i64 x.op) ∧ W.cell? ⟨X, 1, none⟩ = some (.int .i64 x.a) ∧ W.cell? ⟨X, 2, none⟩ = some (.int .i64 x.b) ∧ W.cell? ⟨X, 3, none⟩ = some (.int .i64 x.c) ∧ W.cell? ⟨X, 4, none⟩ = some (.int .i64 x.n) := fun W h =>
    ⟨(h.cell (p := ⟨X, 0, none⟩) qX3).trans Hx3.out.1, (h.cell (p := ⟨X, 1, none⟩) qX3).trans Hx3.out.2.1, (h.cell (p := ⟨X, 2, none⟩) qX3).trans Hx3.out.2.2.1, (h.cell (p := ⟨X, 3, none⟩) qX3).trans Hx3.out.2.2.2.1, (h.cell (p := ⟨X, 4, none⟩) qX3).trans Hx3.out.2.2.2.2⟩
  have Hxk := Lib.hid xk
  have Hk : Hid (∀ (W : World), Below w3.heap.size w3 W → W.cell? ⟨m.b, 0, none⟩ = some (.slice a n cap)) := fun W h => (h.cell (p := ⟨m.b, 0, none⟩) H3.out.1.in).trans (by rw [H3.out.1.c0, H.out.2.2])
  have Hb : Hid (W0.cell? ⟨m.b, 0, none⟩ = some (.slice a n cap) ∧ W0.cell? ⟨X, 0, none⟩ = some (.int .i64 x.op) ∧ W0.cell? ⟨X, 1, none⟩ = some (.int .i64 x.a) ∧ W0.cell? ⟨X, 2, none⟩ = some (.int .i64 x.b) ∧ W0.cell? ⟨X, 3, none⟩ = some (.int .i64 x.c) ∧ W0.cell? ⟨X, 4, none⟩ = some (.int .i64 x.n)) := ⟨Hk.out _ hb0, xk _ hb0⟩
  have HF0 := Lib.hid hb0
  clear hb0 hW0 xk
  refine wpAnyZ_take (i := 0) (by simp only [List.getElem?_toArray, List.getElem?_cons_zero]; rfl) (by kernel_rfl) (by kernel_rfl) (by kernel_rfl) (by kernel_rfl) (by intro _ _ _ h; exact h) (Or.inl ⟨by rfl, fun w hw => by (obtain ⟨k0, k1, k2, k3, k4, k5⟩ := hw; go_simp; try rfl)⟩) Hb.out ?_
  refine wpAnyZ_take (i := 1) (by simp only [List.getElem?_toArray, List.getElem?_cons_succ, List.getElem?_cons_zero]; rfl) (by kernel_rfl) (by kernel_rfl) (by kernel_rfl) (by kernel_rfl) (by intro _ _ _ h; exact h) (Or.inl ⟨by rfl, fun w hw => by (obtain ⟨k0, k1, k2, k3, k4, k5⟩ := hw; go_simp; try rfl)⟩) Hb.out ?_
  go_frame
  refine wpAnyZ_take (i := 2) (by simp only [List.getElem?_toArray, List.getElem?_cons_succ, List.getElem?_cons_zero]; rfl) (by kernel_rfl) (by kernel_rfl) (by kernel_rfl) (by kernel_rfl) (by intro _ _ _ h; exact h) (Or.inl ⟨by rfl, fun w hw => by (obtain ⟨k0, k1, k2, k3, k4, k5⟩ := hw; go_simp; try rfl)⟩) Hb.out ?_
  refine wpAnyZ_take (i := 3) (by simp only [List.getElem?_toArray, List.getElem?_cons_succ, List.getElem?_cons_zero]; rfl) (by kernel_rfl) (by kernel_rfl) (by kernel_rfl) (by kernel_rfl) (by intro _ _ _ h; exact h) (Or.inl ⟨by rfl, fun w hw => by (obtain ⟨k0, k1, k2, k3, k4, k5⟩ := hw; go_simp; try rfl)⟩) Hb.out ?_
  go_frame
  refine wpAnyZ_take (i := 4) (by simp only [List.getElem?_toArray, List.getElem?_cons_succ, List.getElem?_cons_zero]; rfl) (by kernel_rfl) (by kernel_rfl) (by kernel_rfl) (by kernel_rfl) (by intro _ _ _ h; exact h) (Or.inl ⟨by rfl, fun w hw => by (obtain ⟨k0, k1, k2, k3, k4, k5⟩ := hw; go_simp; try rfl)⟩) Hb.out ?_
  refine wpAnyZ_take (i := 5) (by simp only [List.getElem?_toArray, List.getElem?_cons_succ, List.getElem?_cons_zero]; rfl) (by kernel_rfl) (by kernel_rfl) (by kernel_rfl) (by kernel_rfl) (by intro _ _ _ h; exact h) (Or.inl ⟨by rfl, fun w hw => by (obtain ⟨k0, k1, k2, k3, k4, k5⟩ := hw; go_simp; try rfl)⟩) Hb.out ?_
  go_frame
  refine wpAnyZ_next (i := 6) (by kernel_rfl) (by simp only [List.getElem?_toArray, List.getElem?_cons_succ, List.getElem?_cons_zero]; rfl) (fun Kc hKc => ?_)
  go_simp
  obtain ⟨Y, hY⟩ : ∃ Y, Y = W0.heap.size := ⟨_, rfl⟩
  obtain ⟨W7, hW7⟩ : ∃ w : World, w = W0.alloc (.cells #[.int .i64 x.op, .int .i64 x.a, .int .i64 x.b, .int .i64 x.c, .int .i64 x.n] 58) := ⟨_, rfl⟩
  rw [← hY, ← hW7]
  have hb7 : Below W0.heap.size W0 W7 := by rw [hW7]; exact (Below.refl _ _).alloc (Nat.le_refl _) _
  have HY : Hid ((W7.cell? ⟨Y, 0, none⟩ = some (.int .i64 x.op) ∧ W7.cell? ⟨Y, 1, none⟩ = some (.int .i64 x.a) ∧ W7.cell? ⟨Y, 2, none⟩ = some (.int .i64 x.b) ∧ W7.cell? ⟨Y, 3, none⟩ = some (.int .i64 x.c) ∧ W7.cell? ⟨Y, 4, none⟩ = some (.int .i64 x.n)) ∧ Y < W7.heap.size) := by
    show _ ∧ _
    rw [hW7, hY]; exact ⟨⟨World.cell?_alloc_at _ _ _ _ rfl, World.cell?_alloc_at _ _ _ _ rfl, World.cell?_alloc_at _ _ _ _ rfl, World.cell?_alloc_at _ _ _ _ rfl, World.cell?_alloc_at _ _ _ _ rfl⟩, by simp⟩
  have HF7 : Hid (Below w3.heap.size w3 W7) := HF0.out.trans (hb7.mono HF0.out.size)
  have HK7 : Hid (OwnIns W7 B (.slice a n cap) s.code) := by have h1 := (H3.out.1.later HF7.out).code; rw [H.out.2.2] at h1; exact h1
  have q7 : B ≤ W7.heap.size := Nat.le_trans (Nat.le_of_lt (Nat.lt_of_le_of_lt H.out.1.lo.2.2 H3.out.1.in)) HF7.out.size
  clear hb7 hY hW7
  refine hKc.out _ _ (fun _ => ⟨Hk.out _ HF7.out, Hxk.out _ HF7.out⟩) ?_
  clear hKc Kc
  try go_frame
  refine wpAnyZ_next (i := 7) (by kernel_rfl) (by simp only [List.getElem?_toArray, List.getElem?_cons_succ, List.getElem?_cons_zero]; rfl) (fun Kc hKc => ?_)
  rw [if_pos (by rfl)]
  refine append_ins_wp _ _ rfl B (.slice a n cap) s.code rfl HK7.out x Y rfl HY.out H.out.2.1 q7 ?_
  intro v4 W4 hown4 hg4 hfr4
  have HG := by
    have hg5 := hg4
    have hfr5 := hfr4
    rw [← H.out.2.2] at hg5 hfr5
    exact Lib.hid (H3.out.1.grow HF7.out hown4 (by simp) hg5 hfr5)
  have HX4 : Hid (W4.cell? ⟨m.b, 0, none⟩ = some (.slice a n cap) ∧ W4.cell? ⟨X, 0, none⟩ = some (.int .i64 x.op) ∧ W4.cell? ⟨X, 1, none⟩ = some (.int .i64 x.a) ∧ W4.cell? ⟨X, 2, none⟩ = some (.int .i64 x.b) ∧ W4.cell? ⟨X, 3, none⟩ = some (.int .i64 x.c) ∧ W4.cell? ⟨X, 4, none⟩ = some (.int .i64 x.n)) := by
    have hnX : (Value.slice a n cap).ownBlock ≠ some X := fun e => by
      have h1 := (World.ownsRow.lt H.out.1.code X (by rw [H.out.2.2]; exact e)).2
      have := HX.out.2.2.1
      omega
    have hk := fun (j : Nat) => World.cell?_of_block (a := ⟨X, j, none⟩) (hg4.block X (Nat.lt_of_lt_of_le qX3 HF7.out.size) (fun e => hnX e.symm))
    have h2 := Hxk.out _ HF7.out
    exact ⟨by rw [HG.out.1.1, H.out.2.2], (hk 0).trans h2.1, (hk 1).trans h2.2.1, (hk 2).trans h2.2.2.1, (hk 3).trans h2.2.2.2.1, (hk 4).trans h2.2.2.2.2⟩
  obtain ⟨a4, n4, c4, rfl⟩ := row_shape hown4
  have hn4 : n4 = n + 1 := by
    have h1 := hown4.1
    rcases hown4.2 with ⟨e, e0⟩ | ⟨g, c2, cur, e, _⟩
    · simp at e0
    · cases e; simp [Hn.out]
  subst hn4
  clear hown4 hg4 hfr4
  refine hKc.out _ _ (fun _ => HX4.out) ?_
  clear hKc Kc
  try go_frame
  refine wpAnyZ_next (i := 8) (by kernel_rfl) (by simp only [List.getElem?_toArray, List.getElem?_cons_succ, List.getElem?_cons_zero]; rfl) (fun Kc hKc => ?_)
  go_simp
  refine hKc.out _ _ (fun _ => HX4.out) ?_
  clear hKc Kc
  try go_frame
  refine wpAnyZ_next (i := 9) (by kernel_rfl) (by simp only [List.getElem?_toArray, List.getElem?_cons_succ, List.getElem?_cons_zero]; rfl) (fun Kc hKc => ?_)
  go_simp
  refine hKc.out _ _ (fun _ => HX4.out) ?_
  clear hKc Kc
  try go_frame
  refine wpAnyZ_next (i := 10) (by kernel_rfl) (by simp only [List.getElem?_toArray, List.getElem?_cons_succ, List.getElem?_cons_zero]; rfl) (fun Kc hKc => ?_)
  have z4 := HG.out.1.1
  have z5 := HG.out.1.2
  go_simp
  refine hKc.out _ _ (fun h => absurd rfl h) ?_
  clear hKc Kc z4 z5
  refine wpAnyZ_done (by kernel_rfl) ?_ _
  have e0 := HG.out.2.1.c0
  go_wp2_with fail
  go_ret
  refine ⟨by rw [Hn.out]; have h1 := H.out.2.1; rw [show wrap64 ((s.code.length : Nat) : Int) = (s.code.length : Int) by unfold wrap64; omega]; rfl, _, HG.out.2.1, (GStep.same m H3.out.2 fun k e => .inl e).trans HG.out.2.2, rfl⟩
theorem put_any (x : Ins) (hx : x.regs) (w : World) (B : Nat) (m : Mk) (F : ByteArray → Int) (N : Nat) (s : GS) (h : MkAt w B m F N s) (hl : s.code.length ≤ 1000000000000) :
    Calls Tryd.prog 11 #[ptrV m.b, insV x] w (fun E w' => E = .returned (.int .i64 (s.code.length : Int)) ∧ ∃ m', MkAt w' B m' F N (s.add [x]) ∧ GStep w m w' m') :=
  (put_anyP x hx w B m F N s h hl).mono fun _ _ ⟨e, m', h1, h2, _⟩ => ⟨e, m', h1, h2⟩
/-- The words that lead on. -/
theorem getE_mid (A C : List Ins) (x : Ins) (f : Ins → Ins) : (A ++ x :: C).modify A.length f = A ++ f x :: C := by
  induction A with
  | nil => simp
  | cons y A ih => simp [ih]
set_option maxRecDepth 100000 in
set_option maxHeartbeats 4000000 in
theorem later_anyP (op a b : Int) (hx : (0 ≤ a ∧ a ≤ 1000000000000) ∧ (0 ≤ b ∧ b ≤ 1000000000000)) (w : World) (B : Nat) (m : Mk) (F : ByteArray → Int) (N : Nat) (s : GS) (h : MkAt w B m F N s) (hl : s.code.length ≤ 1000000000000) :
    Calls Tryd.prog 36 #[ptrV m.b, .int .i64 op, .int .i64 a, .int .i64 b] w (fun E w' => ∃ fv, E = .returned fv ∧ ∃ m', MkAt w' B m' F N (s.add [⟨op, a, b, 0, 0⟩]) ∧ GStep w m w' m' ∧ Later w' m' fv s.code.length ∧ m'.pv = m.pv) := by
  obtain ⟨X, hX⟩ : ∃ X, X = w.heap.size := ⟨_, rfl⟩
  obtain ⟨W1, hW1⟩ : ∃ W1, W1 = w.alloc (.cells #[ptrV m.b] 61) := ⟨_, rfl⟩
  have hb1 : Below w.heap.size w W1 := by rw [hW1]; exact (Below.refl _ _).alloc (Nat.le_refl _) _
  have x1 : W1.cell? ⟨X, 0, none⟩ = some (ptrV m.b) := by rw [hW1, hX]; exact World.cell?_alloc_at _ _ _ _ rfl
  have hmf : ∀ (fn : Go.Fn) (first cap : Array Value) (w : World), (Instr.makeFunc fn first cap).run Tryd.prog w = .ok (.func fn first cap) w := fun _ _ _ _ => rfl
  have HmT : Hid (¬ m.T X) := fun e => by have := h.inT X e; omega
  have H := Lib.hid (And.intro h hl)
  have HW := Lib.hid (And.intro hW1 (And.intro hX hb1))
  have H1 := Lib.hid (h.later hb1)
  have Hx := Lib.hid hx
  have qX := block_lt_of_cell x1
  have Hx1 := Lib.hid x1
  clear h hl hX hW1 hb1 hx
  unfold ptrV at *
  go_enter Tryd.func36, Tryd.ntmps36
  go_wp2_with fail
  rw [← HW.out.1, ← HW.out.2.1]
  refine (put_anyP ⟨op, a, b, 0, 0⟩ ⟨Hx.out.1, Hx.out.2, by show (0 : Int) ≤ 0 ∧ (0 : Int) ≤ 1000000000000; decide⟩ W1 B m F N s H1.out H.out.2).mono ?_
  rintro E w2 ⟨rfl, m2, hM2, hG2, hpv⟩
  have x2 := (hG2.cell (p := ⟨X, 0, none⟩) qX HmT.out).trans Hx1.out
  obtain ⟨Y, hY⟩ : ∃ Y, Y = w2.heap.size := ⟨_, rfl⟩
  have HYT : Hid (¬ m2.T Y) := fun e => by have := hM2.inT Y e; omega
  have HXT : Hid (¬ m2.T X) := (hG2.block qX HmT.out).2
  obtain ⟨W3, hW3⟩ : ∃ W3, W3 = w2.alloc (.cells #[.int .i64 (s.code.length : Int)] 3) := ⟨_, rfl⟩
  have hb3 : Below w2.heap.size w2 W3 := by rw [hW3]; exact (Below.refl _ _).alloc (Nat.le_refl _) _
  have y3 : W3.cell? ⟨Y, 0, none⟩ = some (.int .i64 (s.code.length : Int)) := by rw [hW3]; exact World.cell?_alloc_at _ _ _ _ hY
  have HW3 := Lib.hid (And.intro hW3 (And.intro hY (And.intro hb3 y3)))
  have H2 := Lib.hid (And.intro hM2 (And.intro hG2 x2))
  have Hpv := Lib.hid hpv
  clear hpv hM2 hG2 x2 hY hW3 hb3 y3 x1
  go_wp2_with fail
  go_ret
  refine ⟨_, rfl, m2, ?_, ?_, ⟨X, Y, ?_, ?_, ?_, HXT.out, HYT.out⟩, Hpv.out⟩
  · rw [← HW3.out.1]; exact H2.out.1.later HW3.out.2.2.1
  · rw [← HW3.out.1]; exact ((GStep.of_below m HW.out.2.2).trans H2.out.2.1).trans (.of_below m2 HW3.out.2.2.1)
  · rw [← HW3.out.2.1]; rfl
  · rw [← HW3.out.1, H2.out.2.1.b]; exact (HW3.out.2.2.1.cell (p := ⟨X, 0, none⟩) (Nat.lt_of_lt_of_le qX H2.out.2.1.oth.size)).trans H2.out.2.2
  · rw [← HW3.out.1]; exact HW3.out.2.2.2
theorem later_any (op a b : Int) (hx : (0 ≤ a ∧ a ≤ 1000000000000) ∧ (0 ≤ b ∧ b ≤ 1000000000000)) (w : World) (B : Nat) (m : Mk) (F : ByteArray → Int) (N : Nat) (s : GS) (h : MkAt w B m F N s) (hl : s.code.length ≤ 1000000000000) :
    Calls Tryd.prog 36 #[ptrV m.b, .int .i64 op, .int .i64 a, .int .i64 b] w (fun E w' => ∃ fv, E = .returned fv ∧ ∃ m', MkAt w' B m' F N (s.add [⟨op, a, b, 0, 0⟩]) ∧ GStep w m w' m' ∧ Later w' m' fv s.code.length) :=
  (later_anyP op a b hx w B m F N s h hl).mono fun _ _ ⟨fv, e, m', h1, h2, h3, _⟩ => ⟨fv, e, m', h1, h2, h3⟩
theorem flat_modify (l : List Ins) (i : Nat) (hi : i < l.length) (z : Int) : (l.flatMap Ins.cells).set (i * 5 + 4) (.int .i64 z) = (l.modify i fun x => { x with n := z }).flatMap Ins.cells := by
  induction l generalizing i with
  | nil => simp at hi
  | cons x l ih =>
    cases i with
    | zero => simp [Ins.cells, List.modify_cons]
    | succ i =>
      have h1 := ih i (by simpa using hi)
      simp only [List.flatMap_cons, List.modify_succ_cons]
      rw [List.set_append_right _ _ (by simp [Ins.cells]; omega), ← h1, show (i + 1) * 5 + 4 - x.cells.length = i * 5 + 4 by simp [Ins.cells]; omega]
theorem MkAt.patch {w : World} {B : Nat} {m : Mk} {F : ByteArray → Int} {N : Nat} {s : GS} (h : MkAt w B m F N s) {i g cap : Nat} (hi : i < s.code.length) (hcv : m.cv = .slice (some ⟨g, 0, none⟩) s.code.length cap) (z : Int) :
    MkAt (w.setCell ⟨g, i * 5 + 4, none⟩ (.int .i64 z)) B m F N { s with code := s.code.modify i fun x => { x with n := z } } ∧ GStep w m (w.setCell ⟨g, i * 5 + 4, none⟩ (.int .i64 z)) m := by
  have hg : m.cv.ownBlock = some g := by rw [hcv]; rfl
  have hO : Oth (· = g) w (w.setCell ⟨g, i * 5 + 4, none⟩ (.int .i64 z)) := (Oth.refl (· = g) w).set (p := ⟨g, i * 5 + 4, none⟩) rfl _
  have hG := GStep.same m hO fun k e => .inr (.inr (.inl (by rw [hg]; exact congrArg some e.symm)))
  have q := h.in
  have hap := h.apc g hg
  have k := fun j => hO.cell (p := ⟨m.b, j, none⟩) q (fun e => hap.2.2.1 e.symm)
  obtain ⟨S, hS⟩ := h.funcs
  obtain ⟨S2, hS2, hn⟩ := h.vars
  have hb : ∀ k, k < w.heap.size → k ≠ g → (w.setCell ⟨g, i * 5 + 4, none⟩ (.int .i64 z)).heap[k]? = w.heap[k]? := fun k hk e => hO.block k hk e
  have hcode := h.code
  unfold OwnIns at hcode
  rw [hcv] at hcode
  refine ⟨⟨(k _).trans h.c0, (k _).trans h.c1, (k _).trans h.c2, (k _).trans h.c3, (k _).trans h.c4, (k _).trans h.c5, fun j => (hO.frozen (p := ⟨m.b, j, none⟩) q (fun e => hap.2.2.1 e.symm)).trans (h.fr j), ?_, ⟨S, hS.at_block (hb _ hS.lt fun e => hap.1 e.symm)⟩, ⟨S2, hS2.at_block (hb _ hS2.lt fun e => hap.2.1 e.symm), hn⟩, ?_, fun p hp => by simpa using h.pin p hp, h.lo, h.ne, h.apc, h.app, h.vreg⟩, hG⟩
  · have h1 := (World.ownsRow.stored hcode (i * 5 + 4) (.int .i64 z)).1
    unfold OwnIns
    rw [hcv, ← flat_modify _ _ hi]
    simpa using h1
  · exact h.pats.keep hG fun k hk => hb k (h.inT k (.inr (.inr (.inr hk)))) fun e => hap.2.2.2 (e ▸ hk)
/-- A closure's work: the instruction at its place leads to the next one. -/
def GS.lead (s : GS) (i : Nat) : GS := { s with code := s.code.modify i fun x => { x with n := (s.code.length : Int) } }
set_option maxRecDepth 100000 in
set_option maxHeartbeats 4000000 in
theorem patch_any (bm ba i : Nat) (w : World) (B : Nat) (m : Mk) (F : ByteArray → Int) (N : Nat) (s : GS) (h : MkAt w B m F N s) (hi : i < s.code.length) (hl : s.code.length ≤ 1000000000000) (x0 : w.cell? ⟨bm, 0, none⟩ = some (ptrV m.b)) (y0 : w.cell? ⟨ba, 0, none⟩ = some (.int .i64 (i : Int))) :
    Calls Tryd.prog 44 #[.pointer (some ⟨bm, 0, none⟩), .pointer (some ⟨ba, 0, none⟩)] w (fun E w' => E = .returned (.tuple #[]) ∧ MkAt w' B m F N (s.lead i) ∧ GStep w m w' m) := by
  obtain ⟨g, cap, hcv, hg⟩ : ∃ g cap, m.cv = .slice (some ⟨g, 0, none⟩) s.code.length cap ∧ g < w.heap.size := by
    rcases h.code.2 with ⟨_, e0⟩ | ⟨g, cap, cur, e, hB, hh, _⟩
    · omega
    · exact ⟨g, cap, e, (Array.getElem?_eq_some_iff.1 hh).1⟩
  have hcode := h.code
  unfold OwnIns at hcode
  rw [hcv] at hcode
  have c0 := h.c0
  rw [hcv] at c0
  obtain ⟨n, hn⟩ : ∃ n, n = s.code.length := ⟨_, rfl⟩
  have e4 := World.ownsRow.cellAt hcode (i * 5 + 4) (by omega)
  obtain ⟨u, hu⟩ : ∃ u, w.cell? ⟨g, i * 5 + 4, none⟩ = some u := by
    obtain ⟨x, hx⟩ : ∃ x, s.code[i]? = some x := ⟨_, List.getElem?_eq_getElem hi⟩
    exact ⟨_, by rw [e4, flat_cells _ _ _ (by decide), hx]; rfl⟩
  have f4 := World.ownsRow.frozenAt hcode (i * 5 + 4)
  obtain ⟨W0, hW0⟩ : ∃ W0, W0 = w.drew := ⟨_, rfl⟩
  have hb0 : Below w.heap.size w W0 := by rw [hW0]; exact (Below.refl _ _).drew
  have HP := Lib.hid ((h.later hb0).patch hi hcv (n : Int))
  have HN := Lib.hid (And.intro hn (And.intro hcv h))
  rw [← hn] at c0 hi hl
  have hw1 : wrap64 (n : Int) = (n : Int) := by unfold wrap64; omega
  have hi1 : 0 ≤ (i : Int) ∧ (i : Int) < (n : Int) := by omega
  have qb := h.in
  have qm := block_lt_of_cell x0
  have qa := block_lt_of_cell y0
  clear h hcv hcode hn e4 hl
  unfold ptrV at *
  go_enter Tryd.func44, Tryd.ntmps44
  go_upto_region 0 with (fail)
  refine wp_region_heldZ (S := fun w => w.cell? ⟨bm, 0, none⟩ = some (.pointer (some ⟨m.b, 0, none⟩)) ∧ w.cell? ⟨ba, 0, none⟩ = some (.int .i64 (i : Int)) ∧ w.cell? ⟨m.b, 0, none⟩ = some (.slice (some ⟨g, 0, none⟩) n cap)) (z := 12) rfl ?_
  change wpAnyZ _ _ _ _ _ _ _ _ _ w.drew
  rw [← hW0]
  have Hb : Hid (W0.cell? ⟨bm, 0, none⟩ = some (.pointer (some ⟨m.b, 0, none⟩)) ∧ W0.cell? ⟨ba, 0, none⟩ = some (.int .i64 (i : Int)) ∧ W0.cell? ⟨m.b, 0, none⟩ = some (.slice (some ⟨g, 0, none⟩) n cap)) := ⟨(hb0.cell (p := ⟨bm, 0, none⟩) qm).trans x0, (hb0.cell (p := ⟨ba, 0, none⟩) qa).trans y0, (hb0.cell (p := ⟨m.b, 0, none⟩) qb).trans c0⟩
  have u0 : W0.cell? ⟨g, i * 5 + 4, none⟩ = some u := (hb0.cell (p := ⟨g, i * 5 + 4, none⟩) hg).trans hu
  have f0 : W0.frozen? ⟨g, i * 5 + 4, none⟩ = false := (hb0.frozen (p := ⟨g, i * 5 + 4, none⟩) hg).trans f4
  have HB0 := Lib.hid hb0
  clear hb0 hW0 x0 y0 c0 hu f4
  refine wpAnyZ_take (i := 0) (by simp only [List.getElem?_toArray, List.getElem?_cons_zero]; rfl) (by kernel_rfl) (by kernel_rfl) (by kernel_rfl) (by kernel_rfl) (by intro _ _ _ h; exact h) (Or.inl ⟨by rfl, fun w hw => by (obtain ⟨k0, k1, k2⟩ := hw; go_simp; try rfl)⟩) Hb.out ?_
  refine wpAnyZ_take (i := 1) (by simp only [List.getElem?_toArray, List.getElem?_cons_succ, List.getElem?_cons_zero]; rfl) (by kernel_rfl) (by kernel_rfl) (by kernel_rfl) (by kernel_rfl) (by intro _ _ _ h; exact h) (Or.inl ⟨by rfl, fun w hw => by (obtain ⟨k0, k1, k2⟩ := hw; go_simp; try rfl)⟩) Hb.out ?_
  go_frame
  refine wpAnyZ_take (i := 2) (by simp only [List.getElem?_toArray, List.getElem?_cons_succ, List.getElem?_cons_zero]; rfl) (by kernel_rfl) (by kernel_rfl) (by kernel_rfl) (by kernel_rfl) (by intro _ _ _ h; exact h) (Or.inl ⟨by rfl, fun w hw => by (obtain ⟨k0, k1, k2⟩ := hw; go_simp; try rfl)⟩) Hb.out ?_
  refine wpAnyZ_take (i := 3) (by simp only [List.getElem?_toArray, List.getElem?_cons_succ, List.getElem?_cons_zero]; rfl) (by kernel_rfl) (by kernel_rfl) (by kernel_rfl) (by kernel_rfl) (by intro _ _ _ h; exact h) (Or.inl ⟨by rfl, fun w hw => by (obtain ⟨k0, k1, k2⟩ := hw; go_simp; try rfl)⟩) Hb.out ?_
  go_frame
  refine wpAnyZ_take (i := 4) (by simp only [List.getElem?_toArray, List.getElem?_cons_succ, List.getElem?_cons_zero]; rfl) (by kernel_rfl) (by kernel_rfl) (by kernel_rfl) (by kernel_rfl) (by intro _ _ _ h; exact h) (Or.inl ⟨by rfl, fun w hw => by (obtain ⟨k0, k1, k2⟩ := hw; go_simp; try rfl)⟩) Hb.out ?_
  refine wpAnyZ_take (i := 5) (by simp only [List.getElem?_toArray, List.getElem?_cons_succ, List.getElem?_cons_zero]; rfl) (by kernel_rfl) (by kernel_rfl) (by kernel_rfl) (by kernel_rfl) (by intro _ _ _ h; exact h) (Or.inl ⟨by rfl, fun w hw => by (obtain ⟨k0, k1, k2⟩ := hw; go_simp; try rfl)⟩) Hb.out ?_
  go_frame
  refine wpAnyZ_take (i := 6) (by simp only [List.getElem?_toArray, List.getElem?_cons_succ, List.getElem?_cons_zero]; rfl) (by kernel_rfl) (by kernel_rfl) (by kernel_rfl) (by kernel_rfl) (by intro _ _ _ h; exact h) (Or.inl ⟨by rfl, fun w hw => by (obtain ⟨k0, k1, k2⟩ := hw; go_simp; try rfl)⟩) Hb.out ?_
  refine wpAnyZ_take (i := 7) (by simp only [List.getElem?_toArray, List.getElem?_cons_succ, List.getElem?_cons_zero]; rfl) (by kernel_rfl) (by kernel_rfl) (by kernel_rfl) (by kernel_rfl) (by intro _ _ _ h; exact h) (Or.inl ⟨by rfl, fun w hw => by (obtain ⟨k0, k1, k2⟩ := hw; go_simp; try rfl)⟩) Hb.out ?_
  go_frame
  refine wpAnyZ_take (i := 8) (by simp only [List.getElem?_toArray, List.getElem?_cons_succ, List.getElem?_cons_zero]; rfl) (by kernel_rfl) (by kernel_rfl) (by kernel_rfl) (by kernel_rfl) (by intro _ _ _ h; exact h) (Or.inl ⟨by rfl, fun w hw => by (obtain ⟨k0, k1, k2⟩ := hw; go_simp; try rfl)⟩) Hb.out ?_
  refine wpAnyZ_take (i := 9) (by simp only [List.getElem?_toArray, List.getElem?_cons_succ, List.getElem?_cons_zero]; rfl) (by kernel_rfl) (by kernel_rfl) (by kernel_rfl) (by kernel_rfl) (by intro _ _ _ h; exact h) (Or.inl ⟨by rfl, fun w hw => by (obtain ⟨k0, k1, k2⟩ := hw; go_simp; try rfl)⟩) Hb.out ?_
  go_frame
  refine wpAnyZ_next (i := 10) (by kernel_rfl) (by simp only [List.getElem?_toArray, List.getElem?_cons_succ, List.getElem?_cons_zero]; rfl) (fun Kc hKc => ?_)
  go_simp
  refine hKc.out _ _ (fun _ => Hb.out) ?_
  clear hKc Kc
  try go_frame
  refine wpAnyZ_next (i := 11) (by kernel_rfl) (by simp only [List.getElem?_toArray, List.getElem?_cons_succ, List.getElem?_cons_zero]; rfl) (fun Kc hKc => ?_)
  go_simp
  refine hKc.out _ _ (fun _ => Hb.out) ?_
  clear hKc Kc
  try go_frame
  refine wpAnyZ_next (i := 12) (by kernel_rfl) (by simp only [List.getElem?_toArray, List.getElem?_cons_succ, List.getElem?_cons_zero]; rfl) (fun Kc hKc => ?_)
  go_simp
  refine hKc.out _ _ (fun h => absurd rfl h) ?_
  clear hKc Kc
  refine wpAnyZ_done (by kernel_rfl) ?_ _
  go_wp2_with fail
  refine bodyPost_end (results_none rfl _ _ _) rfl ?_
  refine ⟨rfl, ?_, (GStep.of_below m HB0.out).trans HP.out.2⟩
  have h1 := HP.out.1
  rw [HN.out.1] at h1 ⊢
  exact h1
set_option maxRecDepth 100000 in
set_option maxHeartbeats 4000000 in
theorem patchD_any (u : FrameMode) (bm ba i : Nat) (w : World) (B : Nat) (m : Mk) (F : ByteArray → Int) (N : Nat) (s : GS) (h : MkAt w B m F N s) (hi : i < s.code.length) (hl : s.code.length ≤ 1000000000000) (x0 : w.cell? ⟨bm, 0, none⟩ = some (ptrV m.b)) (y0 : w.cell? ⟨ba, 0, none⟩ = some (.int .i64 (i : Int))) :
    CallsD Tryd.prog 44 #[.pointer (some ⟨bm, 0, none⟩), .pointer (some ⟨ba, 0, none⟩)] u w (fun E u' w' => u' = u ∧ E = .returned (.tuple #[]) ∧ MkAt w' B m F N (s.lead i) ∧ GStep w m w' m) := by
  obtain ⟨g, cap, hcv, hg⟩ : ∃ g cap, m.cv = .slice (some ⟨g, 0, none⟩) s.code.length cap ∧ g < w.heap.size := by
    rcases h.code.2 with ⟨_, e0⟩ | ⟨g, cap, cur, e, hB, hh, _⟩
    · omega
    · exact ⟨g, cap, e, (Array.getElem?_eq_some_iff.1 hh).1⟩
  have hcode := h.code
  unfold OwnIns at hcode
  rw [hcv] at hcode
  have c0 := h.c0
  rw [hcv] at c0
  obtain ⟨n, hn⟩ : ∃ n, n = s.code.length := ⟨_, rfl⟩
  have e4 := World.ownsRow.cellAt hcode (i * 5 + 4) (by omega)
  obtain ⟨v, hu⟩ : ∃ v, w.cell? ⟨g, i * 5 + 4, none⟩ = some v := by
    obtain ⟨x, hx⟩ : ∃ x, s.code[i]? = some x := ⟨_, List.getElem?_eq_getElem hi⟩
    exact ⟨_, by rw [e4, flat_cells _ _ _ (by decide), hx]; rfl⟩
  have f4 := World.ownsRow.frozenAt hcode (i * 5 + 4)
  obtain ⟨W0, hW0⟩ : ∃ W0, W0 = w.drew := ⟨_, rfl⟩
  have hb0 : Below w.heap.size w W0 := by rw [hW0]; exact (Below.refl _ _).drew
  have HP := Lib.hid ((h.later hb0).patch hi hcv (n : Int))
  have HN := Lib.hid (And.intro hn (And.intro hcv h))
  rw [← hn] at c0 hi hl
  have hw1 : wrap64 (n : Int) = (n : Int) := by unfold wrap64; omega
  have hi1 : 0 ≤ (i : Int) ∧ (i : Int) < (n : Int) := by omega
  have qb := h.in
  have qm := block_lt_of_cell x0
  have qa := block_lt_of_cell y0
  clear h hcv hcode hn e4 hl
  unfold ptrV at *
  go_enter_d Tryd.func44, Tryd.ntmps44
  go_upto_region 0 with (fail)
  refine wp_region_heldZ (S := fun w => w.cell? ⟨bm, 0, none⟩ = some (.pointer (some ⟨m.b, 0, none⟩)) ∧ w.cell? ⟨ba, 0, none⟩ = some (.int .i64 (i : Int)) ∧ w.cell? ⟨m.b, 0, none⟩ = some (.slice (some ⟨g, 0, none⟩) n cap)) (z := 12) rfl ?_
  change wpAnyZ _ _ _ _ _ _ _ _ _ w.drew
  rw [← hW0]
  have Hb : Hid (W0.cell? ⟨bm, 0, none⟩ = some (.pointer (some ⟨m.b, 0, none⟩)) ∧ W0.cell? ⟨ba, 0, none⟩ = some (.int .i64 (i : Int)) ∧ W0.cell? ⟨m.b, 0, none⟩ = some (.slice (some ⟨g, 0, none⟩) n cap)) := ⟨(hb0.cell (p := ⟨bm, 0, none⟩) qm).trans x0, (hb0.cell (p := ⟨ba, 0, none⟩) qa).trans y0, (hb0.cell (p := ⟨m.b, 0, none⟩) qb).trans c0⟩
  have u0 : W0.cell? ⟨g, i * 5 + 4, none⟩ = some v := (hb0.cell (p := ⟨g, i * 5 + 4, none⟩) hg).trans hu
  have f0 : W0.frozen? ⟨g, i * 5 + 4, none⟩ = false := (hb0.frozen (p := ⟨g, i * 5 + 4, none⟩) hg).trans f4
  have HB0 := Lib.hid hb0
  clear hb0 hW0 x0 y0 c0 hu f4
  refine wpAnyZ_take (i := 0) (by simp only [List.getElem?_toArray, List.getElem?_cons_zero]; rfl) (by kernel_rfl) (by kernel_rfl) (by kernel_rfl) (by kernel_rfl) (by intro _ _ _ h; exact h) (Or.inl ⟨by rfl, fun w hw => by (obtain ⟨k0, k1, k2⟩ := hw; go_simp; try rfl)⟩) Hb.out ?_
  refine wpAnyZ_take (i := 1) (by simp only [List.getElem?_toArray, List.getElem?_cons_succ, List.getElem?_cons_zero]; rfl) (by kernel_rfl) (by kernel_rfl) (by kernel_rfl) (by kernel_rfl) (by intro _ _ _ h; exact h) (Or.inl ⟨by rfl, fun w hw => by (obtain ⟨k0, k1, k2⟩ := hw; go_simp; try rfl)⟩) Hb.out ?_
  go_frame
  refine wpAnyZ_take (i := 2) (by simp only [List.getElem?_toArray, List.getElem?_cons_succ, List.getElem?_cons_zero]; rfl) (by kernel_rfl) (by kernel_rfl) (by kernel_rfl) (by kernel_rfl) (by intro _ _ _ h; exact h) (Or.inl ⟨by rfl, fun w hw => by (obtain ⟨k0, k1, k2⟩ := hw; go_simp; try rfl)⟩) Hb.out ?_
  refine wpAnyZ_take (i := 3) (by simp only [List.getElem?_toArray, List.getElem?_cons_succ, List.getElem?_cons_zero]; rfl) (by kernel_rfl) (by kernel_rfl) (by kernel_rfl) (by kernel_rfl) (by intro _ _ _ h; exact h) (Or.inl ⟨by rfl, fun w hw => by (obtain ⟨k0, k1, k2⟩ := hw; go_simp; try rfl)⟩) Hb.out ?_
  go_frame
  refine wpAnyZ_take (i := 4) (by simp only [List.getElem?_toArray, List.getElem?_cons_succ, List.getElem?_cons_zero]; rfl) (by kernel_rfl) (by kernel_rfl) (by kernel_rfl) (by kernel_rfl) (by intro _ _ _ h; exact h) (Or.inl ⟨by rfl, fun w hw => by (obtain ⟨k0, k1, k2⟩ := hw; go_simp; try rfl)⟩) Hb.out ?_
  refine wpAnyZ_take (i := 5) (by simp only [List.getElem?_toArray, List.getElem?_cons_succ, List.getElem?_cons_zero]; rfl) (by kernel_rfl) (by kernel_rfl) (by kernel_rfl) (by kernel_rfl) (by intro _ _ _ h; exact h) (Or.inl ⟨by rfl, fun w hw => by (obtain ⟨k0, k1, k2⟩ := hw; go_simp; try rfl)⟩) Hb.out ?_
  go_frame
  refine wpAnyZ_take (i := 6) (by simp only [List.getElem?_toArray, List.getElem?_cons_succ, List.getElem?_cons_zero]; rfl) (by kernel_rfl) (by kernel_rfl) (by kernel_rfl) (by kernel_rfl) (by intro _ _ _ h; exact h) (Or.inl ⟨by rfl, fun w hw => by (obtain ⟨k0, k1, k2⟩ := hw; go_simp; try rfl)⟩) Hb.out ?_
  refine wpAnyZ_take (i := 7) (by simp only [List.getElem?_toArray, List.getElem?_cons_succ, List.getElem?_cons_zero]; rfl) (by kernel_rfl) (by kernel_rfl) (by kernel_rfl) (by kernel_rfl) (by intro _ _ _ h; exact h) (Or.inl ⟨by rfl, fun w hw => by (obtain ⟨k0, k1, k2⟩ := hw; go_simp; try rfl)⟩) Hb.out ?_
  go_frame
  refine wpAnyZ_take (i := 8) (by simp only [List.getElem?_toArray, List.getElem?_cons_succ, List.getElem?_cons_zero]; rfl) (by kernel_rfl) (by kernel_rfl) (by kernel_rfl) (by kernel_rfl) (by intro _ _ _ h; exact h) (Or.inl ⟨by rfl, fun w hw => by (obtain ⟨k0, k1, k2⟩ := hw; go_simp; try rfl)⟩) Hb.out ?_
  refine wpAnyZ_take (i := 9) (by simp only [List.getElem?_toArray, List.getElem?_cons_succ, List.getElem?_cons_zero]; rfl) (by kernel_rfl) (by kernel_rfl) (by kernel_rfl) (by kernel_rfl) (by intro _ _ _ h; exact h) (Or.inl ⟨by rfl, fun w hw => by (obtain ⟨k0, k1, k2⟩ := hw; go_simp; try rfl)⟩) Hb.out ?_
  go_frame
  refine wpAnyZ_next (i := 10) (by kernel_rfl) (by simp only [List.getElem?_toArray, List.getElem?_cons_succ, List.getElem?_cons_zero]; rfl) (fun Kc hKc => ?_)
  go_simp
  refine hKc.out _ _ (fun _ => Hb.out) ?_
  clear hKc Kc
  try go_frame
  refine wpAnyZ_next (i := 11) (by kernel_rfl) (by simp only [List.getElem?_toArray, List.getElem?_cons_succ, List.getElem?_cons_zero]; rfl) (fun Kc hKc => ?_)
  go_simp
  refine hKc.out _ _ (fun _ => Hb.out) ?_
  clear hKc Kc
  try go_frame
  refine wpAnyZ_next (i := 12) (by kernel_rfl) (by simp only [List.getElem?_toArray, List.getElem?_cons_succ, List.getElem?_cons_zero]; rfl) (fun Kc hKc => ?_)
  go_simp
  refine hKc.out _ _ (fun h => absurd rfl h) ?_
  clear hKc Kc
  refine wpAnyZ_done (by kernel_rfl) ?_ _
  go_wp2_with fail
  refine bodyPost_end (results_none rfl _ _ _) rfl ?_
  refine ⟨rfl, ?_, (GStep.of_below m HB0.out).trans HP.out.2⟩
  have h1 := HP.out.1
  rw [HN.out.1] at h1 ⊢
  exact h1
end Go.Proofs.YtgobcldecokppaaDoor
