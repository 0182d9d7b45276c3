/- gen: any list of statements in memory. -/
import Derived.Test.YtgobcldecokppaaDoorGnLop
namespace Go.Proofs.YtgobcldecokppaaDoor
open Go.RowKit Go.Maps

theorem gn_break {F : ByteArray → Int} {x : St} (hk : x.kind = 8) (s : GS) (t : Int) : s.out (St.gn F x s.V s.words s.code.length t) = { s.add [⟨14, 0, 0, 0, 0⟩] with pats := s.pats ++ [s.code.length] } := by
  rw [St.gn_eq]; simp [gnSt, hk, GS.out, GS.add]
/-- append of one closure, within a region that draws its order. -/
theorem append_fn_wp {o : Oper} {a : Act} {Kc : Act → World → Prop} {Q : Exit → Act → World → Prop} {w : World} (s x : Operand)
    (ho : o.op = .call { callee := .builtin .append, args := #[s, x], argTypes := #[63, 63] })
    (B : Nat) (v : Value) (n : Nat) (fvs : List Value) (hs : a.eval s = v) (hown : w.ownsRow B 1 1 v n fvs) (fv : Value) (hone : fv.oneCell' = true) (Z : Nat) (hx : a.eval x = .slice (some ⟨Z, 0, none⟩) 1 1)
    (hZ : w.cell? ⟨Z, 0, none⟩ = some fv ∧ Z < w.heap.size) (hl : n ≤ 1000000000000) (hB : B ≤ w.heap.size)
    (h : ∀ v' w', w'.ownsRow B 1 1 v' (n + 1) (fvs ++ [fv]) → w.grownBy w' v.ownBlock → Fresh w v v' → Kc (a.put o.dst v') w') : o.wp Tryd.prog a w Kc Q := by
  have hsrc : SliceIn w (.slice (some ⟨Z, 0, none⟩) 1 1) 1 1 [fv] := ⟨rfl, _, _, rfl, Nat.le_refl _, by decide, by simp, fun _ => ⟨_, 0, rfl, hZ.2, fun o u h => by
    rw [Nat.zero_add]
    match o, h with
    | 0, h => simp at h; subst h; exact hZ.1
    | o + 1, h => simp at h⟩⟩
  obtain ⟨v', w', hr, h2, h3, h4⟩ := append_run (ty := o.type) Tryd.underlying63 Tryd.infoFn0 rfl (by decide) B v n fvs hown _ 1 [fv] hsrc (fun u hu => by simp at hu; subst hu; exact hone) (by unfold maxLen; omega) (by omega) hB
  unfold Oper.wp execOp
  simp only [ho, resolve, invoke, builtin, Sem.run_bind, Sem.run_pure, Result.andThen_ok, List.map_toArray, List.map_cons, List.map_nil, hs, hx, hr]
  exact h v' w' h2 h3 h4
theorem MkAt.growP {w w' w4 : World} {B : Nat} {m : Mk} {F : ByteArray → Int} {N : Nat} {s : GS} (h : MkAt w B m F N s) (hb : Below w.heap.size w w') {pv' fv : Value} {fvs : List Value} {p : Nat} (hl0 : s.pats.length = fvs.length) (hl : ∀ (i q : Nat), s.pats[i]? = some q → ∃ fv, fvs[i]? = some fv ∧ Later w m fv q) (hfv : Later w m fv p) (hp : p < s.code.length)
    (hown : w4.ownsRow B 1 1 pv' (s.pats.length + 1) (fvs ++ [fv])) (hg : w'.grownBy w4 m.pv.ownBlock) (hfr : Fresh w' m.pv pv') :
    (w4.cell? ⟨m.b, 5, none⟩ = some m.pv ∧ w4.frozen? ⟨m.b, 5, none⟩ = false) ∧ MkAt (w4.setCell ⟨m.b, 5, none⟩ pv') B { m with pv := pv' } F N { s with pats := s.pats ++ [p] } ∧ GStep w m (w4.setCell ⟨m.b, 5, none⟩ pv') { m with pv := pv' } := by
  have q := h.in
  have hO1 : Oth (fun j => m.pv.ownBlock = some j) w w4 := (Oth.of_below hb).trans ⟨hg.os, hg.tape, hg.output, hg.size, fun i hi hc => hg.block i hi (fun e => hc e.symm)⟩
  have hpv : ∀ k, k < w.heap.size → pv'.ownBlock = some k → m.pv.ownBlock = some k := fun k hk e => by
    by_cases h1 : m.pv.ownBlock = some k
    · exact h1
    · exact absurd e (hfr k (Nat.lt_of_lt_of_le hk hb.size) h1)
  have hG : GStep w m (w4.setCell ⟨m.b, 5, none⟩ pv') { m with pv := pv' } := (show GStep w m w4 m from ⟨hO1.imp fun k _ e => .inr (.inr (.inr e)), rfl, rfl, rfl, fun _ _ e => e⟩).setP _ fun k hk e => .inr (.inr (.inr (hpv k hk e)))
  have h1 := h.reP hO1 (pv := pv') (l := s.pats ++ [p]) ⟨fvs ++ [fv], ?_, fun i j hij => ?_⟩ (fun j hj => ?_) (fun k e => ?_)
  · exact ⟨h1.1, h1.2, hG⟩
  · have h2 := ownsRow_setCell_other hown (a := ⟨m.b, 5, none⟩) (fun e => by
      have e' : pv'.ownBlock = some m.b := e
      exact (h.app _ (hpv _ q e')).2.2 rfl) pv'
    simpa using h2
  · by_cases hi : i < s.pats.length
    · rw [List.getElem?_append_left hi] at hij
      obtain ⟨f, e, hf⟩ := hl i j hij
      exact ⟨f, by rw [List.getElem?_append_left (by omega)]; exact e, hf.step hG⟩
    · rw [List.getElem?_append_right (by omega)] at hij
      have h0 : i - s.pats.length = 0 := by have := (List.getElem?_eq_some_iff.1 hij).1; simp at this; omega
      rw [h0] at hij
      simp at hij
      subst hij
      exact ⟨fv, by rw [List.getElem?_append_right (by omega), show i - fvs.length = 0 by omega]; rfl, hfv.step hG⟩
  · rcases List.mem_append.1 hj with hj | hj
    · exact h.pin j hj
    · simp at hj; subst hj; exact hp
  · by_cases hlt : k < w.heap.size
    · have e1 := hpv k hlt e
      exact ⟨(h.app k e1).1, (h.app k e1).2.1, (h.app k e1).2.2, fun e2 => (h.apc k e2).2.2.2 e1⟩
    · obtain ⟨S, hS⟩ := h.funcs
      obtain ⟨S2, hS2, _⟩ := h.vars
      exact ⟨fun (e : k = m.f) => by have := hS.lt; omega, fun (e : k = m.v) => by have := hS2.lt; omega, fun (e : k = m.b) => by omega, fun e => by have := h.inT k (.inr (.inr (.inl e))); omega⟩
set_option maxRecDepth 100000 in
set_option maxHeartbeats 8000000 in
theorem gs_break (x : St) (hk : x.kind = 8) (hs : x.name.size ≤ 16) (aa ab ad ae ac : Option Addr) (na nb nd ne nc ca cb cd ce cc : Nat) (w0 : World)  :
    GsFor w0 x (stVal x (.slice aa na ca) (.slice ab nb cb) (.slice ad nd cd) (.slice ae ne ce) (.slice ac nc cc)) := by
  intro W B m F N s t hB hwB h ht0 ht hN hP hl
  have hgn := gn_break (F := F) hk s t
  rw [← GS.out_len, hgn] at hl
  rw [hgn]
  obtain ⟨X, hX⟩ : ∃ X, X = W.heap.size := ⟨_, rfl⟩
  obtain ⟨W1, hW1⟩ : ∃ W1, W1 = W.alloc (.cells #[.int .i64 x.kind, .string x.name, .int .i64 x.n, .int .i64 x.a.kind, .int .i64 x.a.n, .string x.a.name, .slice aa na ca, .int .i64 x.b.kind, .int .i64 x.b.n, .string x.b.name, .slice ab nb cb, .slice ad nd cd, .slice ae ne ce, .slice ac nc cc] 56) := ⟨_, rfl⟩
  have hb1 : Below W.heap.size W W1 := by rw [hW1]; exact (Below.refl _ _).alloc (Nat.le_refl _) _
  have xa0 : W1.cell? ⟨X, 0, none⟩ = some (.int .i64 x.kind) := by rw [hW1, hX]; exact World.cell?_alloc_at _ _ _ _ rfl
  have xa1 : W1.cell? ⟨X, 1, none⟩ = some (.string x.name) := by rw [hW1, hX]; exact World.cell?_alloc_at _ _ _ _ rfl
  have xa2 : W1.cell? ⟨X, 2, none⟩ = some (.int .i64 x.n) := by rw [hW1, hX]; exact World.cell?_alloc_at _ _ _ _ rfl
  have xa3 : W1.cell? ⟨X, 3, none⟩ = some (.int .i64 x.a.kind) := by rw [hW1, hX]; exact World.cell?_alloc_at _ _ _ _ rfl
  have xa4 : W1.cell? ⟨X, 4, none⟩ = some (.int .i64 x.a.n) := by rw [hW1, hX]; exact World.cell?_alloc_at _ _ _ _ rfl
  have xa5 : W1.cell? ⟨X, 5, none⟩ = some (.string x.a.name) := by rw [hW1, hX]; exact World.cell?_alloc_at _ _ _ _ rfl
  have xa6 : W1.cell? ⟨X, 6, none⟩ = some (.slice aa na ca) := by rw [hW1, hX]; exact World.cell?_alloc_at _ _ _ _ rfl
  have xa7 : W1.cell? ⟨X, 7, none⟩ = some (.int .i64 x.b.kind) := by rw [hW1, hX]; exact World.cell?_alloc_at _ _ _ _ rfl
  have xa8 : W1.cell? ⟨X, 8, none⟩ = some (.int .i64 x.b.n) := by rw [hW1, hX]; exact World.cell?_alloc_at _ _ _ _ rfl
  have xa9 : W1.cell? ⟨X, 9, none⟩ = some (.string x.b.name) := by rw [hW1, hX]; exact World.cell?_alloc_at _ _ _ _ rfl
  have xa10 : W1.cell? ⟨X, 10, none⟩ = some (.slice ab nb cb) := by rw [hW1, hX]; exact World.cell?_alloc_at _ _ _ _ rfl
  have xa11 : W1.cell? ⟨X, 11, none⟩ = some (.slice ad nd cd) := by rw [hW1, hX]; exact World.cell?_alloc_at _ _ _ _ rfl
  have xa12 : W1.cell? ⟨X, 12, none⟩ = some (.slice ae ne ce) := by rw [hW1, hX]; exact World.cell?_alloc_at _ _ _ _ rfl
  have xa13 : W1.cell? ⟨X, 13, none⟩ = some (.slice ac nc cc) := by rw [hW1, hX]; exact World.cell?_alloc_at _ _ _ _ rfl
  have qX := block_lt_of_cell xa0
  have HmT : Hid (¬ m.T X) := fun e => by have := h.inT X e; omega
  have HB1 : Hid (Below w0.heap.size w0 W1) := hB.trans (hb1.mono hB.size)
  have htx := x.total_eq
  have hwt : wrap64 t = t := by unfold wrap64; omega
  have hwt1 : wrap64 (t + 1) = t + 1 := by unfold wrap64; omega
  have hN' : N ≤ N + x.total := Nat.le_add_right _ _
  have H1 := Lib.hid (And.intro (h.later hb1) hN')
  have HW := Lib.hid (And.intro hW1 (And.intro hX hb1))
  have Hmlo := Lib.hid h.low
  have Hw := Lib.hid hwB
  have Hs := Lib.hid hs
  have hpa := x.a.total_part
  have hpb := x.b.total_part
  have Ht := Lib.hid (show 0 ≤ t ∧ t + (x.a.total : Int) ≤ 1000000 ∧ (1 ≤ x.a.part → t + 1 + (x.b.total : Int) ≤ 1000000) ∧ t ≤ 1000000 by omega)
  have qb := h.in
  have hl2 : s.code.length + 1 ≤ 999999999000 := by
    have h1 : ({ s.add [⟨14, 0, 0, 0, 0⟩] with pats := s.pats ++ [s.code.length] } : GS).code.length = (s.add [⟨14, 0, 0, 0, 0⟩]).code.length := rfl
    rw [h1, GS.add_len] at hl
    exact hl
  have hpl : s.pats.length ≤ 1000000000 := by omega
  have Hl := Lib.hid (And.intro hl2 hpl)
  have q3 : (x.kind == 3) = false := by simp [hk]
  have q4 : (x.kind == 4) = false := by simp [hk]
  have q5 : (x.kind == 5) = false := by simp [hk]
  have q6 : (x.kind == 6) = false := by simp [hk]
  have q7 : (x.kind == 7) = false := by simp [hk]
  have q8 : (x.kind == 8) = true := by simp [hk]
  obtain ⟨a, n, cap, hpv⟩ : ∃ a n c, m.pv = .slice a n c := by obtain ⟨fvs, h1, _⟩ := h.pats; exact row_shape h1
  have Hpv := Lib.hid hpv
  have HB := Lib.hid (Nat.le_of_lt (Nat.lt_of_le_of_lt h.lo.2.2 h.in))
  clear hB hwB h ht0 ht hl hX hW1 hb1 htx hs hgn hN hP hN' hpa hpb hl2 hpl hk hpv
  unfold stVal
  go_enter Tryd.func23, Tryd.ntmps23
  go_upto_region 1 with (fail)
  rw [← HW.out.1, ← HW.out.2.1]
  unfold ptrV at *
  go_upto_region 5 with (fail)
  clear xa0 xa1 xa2 xa3 xa4 xa5 xa6 xa7 xa8 xa9 xa10 xa11 xa12 xa13
  refine wp_region_heldZ (S := fun w => w.cell? ⟨m.b, 5, none⟩ = some (.slice a n cap)) (z := 11) rfl ?_
  change wpAnyZ _ _ _ _ _ _ _ _ _ W1.drew
  obtain ⟨W0, hW0⟩ : ∃ W0, W0 = W1.drew := ⟨_, rfl⟩
  rw [← hW0]
  have hb0 : Below W1.heap.size W1 W0 := by rw [hW0]; exact (Below.refl _ _).drew
  have HM0 := Lib.hid (And.intro (H1.out.1.later hb0) hb0)
  have Hb0 : Hid (W0.cell? ⟨m.b, 5, none⟩ = some (.slice a n cap)) := by have h1 := HM0.out.1.c5; rw [Hpv.out] at h1; exact h1
  clear hb0 hW0
  refine wpAnyZ_take (i := 0) (by simp only [List.getElem?_toArray, List.getElem?_cons_zero]; rfl) (by kernel_rfl) (by kernel_rfl) (by kernel_rfl) (by kernel_rfl) (by intro _ _ _ h; exact h) (Or.inl ⟨by rfl, fun w hw => by (have k0 := hw; go_simp; try rfl)⟩) Hb0.out ?_
  refine wpAnyZ_take (i := 1) (by simp only [List.getElem?_toArray, List.getElem?_cons_succ, List.getElem?_cons_zero]; rfl) (by kernel_rfl) (by kernel_rfl) (by kernel_rfl) (by kernel_rfl) (by intro _ _ _ h; exact h) (Or.inl ⟨by rfl, fun w hw => by (have k0 := hw; go_simp; try rfl)⟩) Hb0.out ?_
  go_frame
  refine wpAnyZ_take (i := 2) (by simp only [List.getElem?_toArray, List.getElem?_cons_succ, List.getElem?_cons_zero]; rfl) (by kernel_rfl) (by kernel_rfl) (by kernel_rfl) (by kernel_rfl) (by intro _ _ _ h; exact h) (Or.inl ⟨by rfl, fun w hw => by (have k0 := hw; go_simp; try rfl)⟩) Hb0.out ?_
  refine wpAnyZ_take (i := 3) (by simp only [List.getElem?_toArray, List.getElem?_cons_succ, List.getElem?_cons_zero]; rfl) (by kernel_rfl) (by kernel_rfl) (by kernel_rfl) (by kernel_rfl) (by intro _ _ _ h; exact h) (Or.inl ⟨by rfl, fun w hw => by (have k0 := hw; go_simp; try rfl)⟩) Hb0.out ?_
  go_frame
  refine wpAnyZ_take (i := 4) (by simp only [List.getElem?_toArray, List.getElem?_cons_succ, List.getElem?_cons_zero]; rfl) (by kernel_rfl) (by kernel_rfl) (by kernel_rfl) (by kernel_rfl) (by intro _ _ _ h; exact h) (Or.inl ⟨by rfl, fun w hw => by (have k0 := hw; go_simp; try rfl)⟩) Hb0.out ?_
  refine wpAnyZ_take (i := 5) (by simp only [List.getElem?_toArray, List.getElem?_cons_succ, List.getElem?_cons_zero]; rfl) (by kernel_rfl) (by kernel_rfl) (by kernel_rfl) (by kernel_rfl) (by intro _ _ _ h; exact h) (Or.inl ⟨by rfl, fun w hw => by (have k0 := hw; go_simp; try rfl)⟩) Hb0.out ?_
  go_frame
  refine wpAnyZ_next (i := 6) (by kernel_rfl) (by simp only [List.getElem?_toArray, List.getElem?_cons_succ, List.getElem?_cons_zero]; rfl) (fun Kc hKc => ?_)
  rw [if_pos (by rfl)]
  have hp := later_anyP 14 0 0 ⟨zero12, zero12⟩ W0 B m F N s HM0.out.1 (by have := Hl.out.1; omega)
  unfold ptrV at hp
  go_simp
  refine hp.mono ?_
  rintro E w2 ⟨fv, rfl, m2, hM2, hG2, hl4, hpv2⟩
  obtain ⟨bm, ba, rfl, hlt⟩ := hl4
  have hl4 : Later w2 m2 (.func (.func 44) #[] #[.pointer (some ⟨bm, 0, none⟩), .pointer (some ⟨ba, 0, none⟩)]) s.code.length := ⟨bm, ba, rfl, hlt⟩
  unfold laterV
  have hpvs : m2.pv = .slice a n cap := hpv2.trans Hpv.out
  have HS2 : Hid (w2.cell? ⟨m.b, 5, none⟩ = some (.slice a n cap)) := by have h1 := hM2.c5; rw [hpvs, hG2.b] at h1; exact h1
  have H2 := Lib.hid (And.intro hM2 (And.intro ((GStep.of_below m HM0.out.2).trans hG2) (And.intro hl4 (And.intro hpvs hG2.b))))
  have HB2 := Lib.hid (Nat.le_trans HB.out (Nat.le_trans HW.out.2.2.size H2.out.2.1.oth.size))
  clear hp hM2 hG2 hlt hl4 hpv2 hpvs
  refine hKc.out _ _ (fun _ => HS2.out) ?_
  clear hKc Kc
  try go_frame
  refine wpAnyZ_next (i := 7) (by kernel_rfl) (by simp only [List.getElem?_toArray, List.getElem?_cons_succ, List.getElem?_cons_zero]; rfl) (fun Kc hKc => ?_)
  go_simp
  obtain ⟨Y, hY⟩ : ∃ Y, Y = w2.heap.size := ⟨_, rfl⟩
  obtain ⟨W3, hW3⟩ : ∃ w : World, w = w2.alloc (.cells #[.func (.func 44) #[] #[.pointer (some ⟨bm, 0, none⟩), .pointer (some ⟨ba, 0, none⟩)]] 1) := ⟨_, rfl⟩
  rw [← hY, ← hW3]
  have hb3 : Below w2.heap.size w2 W3 := by rw [hW3]; exact (Below.refl _ _).alloc (Nat.le_refl _) _
  have HY : Hid (W3.cell? ⟨Y, 0, none⟩ = some (.func (.func 44) #[] #[.pointer (some ⟨bm, 0, none⟩), .pointer (some ⟨ba, 0, none⟩)]) ∧ Y < W3.heap.size) := by
    show _ ∧ _
    rw [hW3, hY]; exact ⟨World.cell?_alloc_at _ _ _ _ rfl, by simp⟩
  have HS3 : Hid (W3.cell? ⟨m.b, 5, none⟩ = some (.slice a n cap)) := (hb3.cell (p := ⟨m.b, 5, none⟩) (block_lt_of_cell HS2.out)).trans HS2.out
  have H3 := Lib.hid (And.intro hb3 (H2.out.1.later hb3))
  have q3 : B ≤ W3.heap.size := Nat.le_trans HB2.out hb3.size
  clear hY hW3 hb3
  refine hKc.out _ _ (fun _ => HS3.out) ?_
  clear hKc Kc
  try go_frame
  refine wpAnyZ_next (i := 8) (by kernel_rfl) (by simp only [List.getElem?_toArray, List.getElem?_cons_succ, List.getElem?_cons_zero]; rfl) (fun Kc hKc => ?_)
  rw [if_pos (by rfl)]
  obtain ⟨fvs, hrow, hlat⟩ := H2.out.1.pats
  have hrow3 := ownsRow_below hrow H3.out.1 (Nat.le_refl _)
  rw [H2.out.2.2.2.1] at hrow3
  have hfl : s.pats.length = fvs.length := by have h1 := hrow.1; rw [Nat.mul_one] at h1; exact h1.symm
  refine append_fn_wp _ _ rfl B (.slice a n cap) _ fvs rfl hrow3 (.func (.func 44) #[] #[.pointer (some ⟨bm, 0, none⟩), .pointer (some ⟨ba, 0, none⟩)]) rfl Y rfl HY.out (by have h1 := Hl.out.2; show s.pats.length ≤ _; omega) q3 ?_
  intro v4 W4 hown4 hg4 hfr4
  have hgr := H2.out.1.growP H3.out.1 (pv' := v4) (fv := .func (.func 44) #[] #[.pointer (some ⟨bm, 0, none⟩), .pointer (some ⟨ba, 0, none⟩)]) (p := s.code.length) hfl hlat H2.out.2.2.1 (by rw [GS.add_len]; simp) hown4 (by rw [H2.out.2.2.2.1]; exact hg4) (by rw [H2.out.2.2.2.1]; exact hfr4)
  obtain ⟨a4, n4, c4, rfl⟩ := row_shape hown4
  rw [H2.out.2.2.2.2, H2.out.2.2.2.1] at hgr
  have HG := Lib.hid hgr
  have HS4 : Hid (W4.cell? ⟨m.b, 5, none⟩ = some (.slice a n cap)) := hgr.1.1
  clear hown4 hg4 hfr4 hgr hrow hlat hrow3 hfl q3
  refine hKc.out _ _ (fun _ => HS4.out) ?_
  clear hKc Kc
  try go_frame
  refine wpAnyZ_next (i := 9) (by kernel_rfl) (by simp only [List.getElem?_toArray, List.getElem?_cons_succ, List.getElem?_cons_zero]; rfl) (fun Kc hKc => ?_)
  go_simp
  refine hKc.out _ _ (fun _ => HS4.out) ?_
  clear hKc Kc
  try go_frame
  refine wpAnyZ_next (i := 10) (by kernel_rfl) (by simp only [List.getElem?_toArray, List.getElem?_cons_succ, List.getElem?_cons_zero]; rfl) (fun Kc hKc => ?_)
  go_simp
  refine hKc.out _ _ (fun _ => HS4.out) ?_
  clear hKc Kc
  try go_frame
  refine wpAnyZ_next (i := 11) (by kernel_rfl) (by simp only [List.getElem?_toArray, List.getElem?_cons_succ, List.getElem?_cons_zero]; rfl) (fun Kc hKc => ?_)
  have z4 := HG.out.1.1
  have z5 := HG.out.1.2
  go_simp
  refine hKc.out _ _ (fun h => absurd rfl h) ?_
  clear hKc Kc z4 z5
  refine wpAnyZ_done (by kernel_rfl) ?_ _
  go_wp2_with fail
  refine bodyPost_ret (results_none rfl _ _ _) rfl ?_
  refine ⟨rfl, _, HG.out.2.1.mono H1.out.2, (GStep.of_below m HW.out.2.2).trans (H2.out.2.1.trans HG.out.2.2)⟩
set_option maxRecDepth 100000 in
set_option maxHeartbeats 8000000 in
theorem gs_switch (x : St) (hk : x.kind = 6) (hs : x.name.size ≤ 16) (aa ab ad ae ac : Option Addr) (na nb nd ne nc ca cb cd ce cc : Nat) (w0 : World) (oc : Nat → Option Addr) (mc kc : Nat → Nat) (hnc : nc = x.cases.length) (hz : 1 ≤ x.a.part) (hrow : RowOf w0 (.slice ac nc cc) nc 2 (fun b o i => ∀ y, x.cases[i]? = some y → CsAt w0 b o y (.slice (oc i) (mc i) (kc i)))) (hck : ∀ (i : Nat) y, x.cases[i]? = some y → GlFor w0 y.body (.slice (oc i) (mc i) (kc i))) (ha : GxFor w0 x.a (.slice aa na ca)) (he : GlFor w0 x.els (.slice ae ne ce)) :
    GsFor w0 x (stVal x (.slice aa na ca) (.slice ab nb cb) (.slice ad nd cd) (.slice ae ne ce) (.slice ac nc cc)) := by
  intro W B m F N s t hB hwB h ht0 ht hN hP hl
  have hgn := gn_switch (F := F) hk s t
  rw [← GS.out_len, hgn] at hl
  rw [hgn]
  obtain ⟨X, hX⟩ : ∃ X, X = W.heap.size := ⟨_, rfl⟩
  obtain ⟨W1, hW1⟩ : ∃ W1, W1 = W.alloc (.cells #[.int .i64 x.kind, .string x.name, .int .i64 x.n, .int .i64 x.a.kind, .int .i64 x.a.n, .string x.a.name, .slice aa na ca, .int .i64 x.b.kind, .int .i64 x.b.n, .string x.b.name, .slice ab nb cb, .slice ad nd cd, .slice ae ne ce, .slice ac nc cc] 56) := ⟨_, rfl⟩
  have hb1 : Below W.heap.size W W1 := by rw [hW1]; exact (Below.refl _ _).alloc (Nat.le_refl _) _
  have xa0 : W1.cell? ⟨X, 0, none⟩ = some (.int .i64 x.kind) := by rw [hW1, hX]; exact World.cell?_alloc_at _ _ _ _ rfl
  have xa1 : W1.cell? ⟨X, 1, none⟩ = some (.string x.name) := by rw [hW1, hX]; exact World.cell?_alloc_at _ _ _ _ rfl
  have xa2 : W1.cell? ⟨X, 2, none⟩ = some (.int .i64 x.n) := by rw [hW1, hX]; exact World.cell?_alloc_at _ _ _ _ rfl
  have xa3 : W1.cell? ⟨X, 3, none⟩ = some (.int .i64 x.a.kind) := by rw [hW1, hX]; exact World.cell?_alloc_at _ _ _ _ rfl
  have xa4 : W1.cell? ⟨X, 4, none⟩ = some (.int .i64 x.a.n) := by rw [hW1, hX]; exact World.cell?_alloc_at _ _ _ _ rfl
  have xa5 : W1.cell? ⟨X, 5, none⟩ = some (.string x.a.name) := by rw [hW1, hX]; exact World.cell?_alloc_at _ _ _ _ rfl
  have xa6 : W1.cell? ⟨X, 6, none⟩ = some (.slice aa na ca) := by rw [hW1, hX]; exact World.cell?_alloc_at _ _ _ _ rfl
  have xa7 : W1.cell? ⟨X, 7, none⟩ = some (.int .i64 x.b.kind) := by rw [hW1, hX]; exact World.cell?_alloc_at _ _ _ _ rfl
  have xa8 : W1.cell? ⟨X, 8, none⟩ = some (.int .i64 x.b.n) := by rw [hW1, hX]; exact World.cell?_alloc_at _ _ _ _ rfl
  have xa9 : W1.cell? ⟨X, 9, none⟩ = some (.string x.b.name) := by rw [hW1, hX]; exact World.cell?_alloc_at _ _ _ _ rfl
  have xa10 : W1.cell? ⟨X, 10, none⟩ = some (.slice ab nb cb) := by rw [hW1, hX]; exact World.cell?_alloc_at _ _ _ _ rfl
  have xa11 : W1.cell? ⟨X, 11, none⟩ = some (.slice ad nd cd) := by rw [hW1, hX]; exact World.cell?_alloc_at _ _ _ _ rfl
  have xa12 : W1.cell? ⟨X, 12, none⟩ = some (.slice ae ne ce) := by rw [hW1, hX]; exact World.cell?_alloc_at _ _ _ _ rfl
  have xa13 : W1.cell? ⟨X, 13, none⟩ = some (.slice ac nc cc) := by rw [hW1, hX]; exact World.cell?_alloc_at _ _ _ _ rfl
  have qX := block_lt_of_cell xa0
  have HmT : Hid (¬ m.T X) := fun e => by have := h.inT X e; omega
  have HB1 : Hid (Below w0.heap.size w0 W1) := hB.trans (hb1.mono hB.size)
  have htx := x.total_eq
  have hwt : wrap64 t = t := by unfold wrap64; omega
  have hwt1 : wrap64 (t + 1) = t + 1 := by unfold wrap64; omega
  have hN' : N ≤ N + x.total := Nat.le_add_right _ _
  have H1 := Lib.hid (And.intro (h.later hb1) hN')
  have HW := Lib.hid (And.intro hW1 (And.intro hX hb1))
  have Hmlo := Lib.hid h.low
  have Hw := Lib.hid hwB
  have Hs := Lib.hid hs
  have hpa := x.a.total_part
  have hpb := x.b.total_part
  have Ht := Lib.hid (show 0 ≤ t ∧ t + (x.a.total : Int) ≤ 1000000 ∧ (1 ≤ x.a.part → t + 1 + (x.b.total : Int) ≤ 1000000) ∧ t ≤ 1000000 by omega)
  have qb := h.in
  obtain ⟨L0, hL0⟩ : ∃ L, L = x.a.gn s.V F s.code.length t := ⟨_, rfl⟩
  rw [← hL0] at hl ⊢
  have hl2 : s.code.length + L0.length ≤ 999999999000 := by
    rw [casesO_eq _ t _ rfl _ rfl, GS.out_len, GS.add_len] at hl
    omega
  have Hl := Lib.hid (And.intro hl2 hL0)
  have Ha := Lib.hid ha
  have Hc := Lib.hid (And.intro hnc (And.intro hrow (And.intro hck (And.intro he hl))))
  have Hnn := Lib.hid (show t + 1 + (Cs.totals x.cases : Int) ≤ 1000000 ∧ t + (St.totals x.els : Int) ≤ 1000000 ∧ N + Cs.totals x.cases + St.totals x.els ≤ 1000000000 ∧ s.pats.length + Cs.totals x.cases + St.totals x.els ≤ 1000000000 ∧ N + Cs.totals x.cases + St.totals x.els ≤ N + x.total by omega)
  have q3 : (x.kind == 3) = false := by simp [hk]
  have q4 : (x.kind == 4) = false := by simp [hk]
  have q5 : (x.kind == 5) = false := by simp [hk]
  have q6 : (x.kind == 6) = true := by simp [hk]
  have q7 : (x.kind == 7) = false := by simp [hk]
  have q8 : (x.kind == 8) = false := by simp [hk]
  have q9 : (x.kind == 9) = false := by simp [hk]
  clear hB hwB h ht0 ht hl hX hW1 hb1 htx hs hgn hN hP hN' hpa hpb hL0 ha hk hnc hz hrow hck he hl2
  unfold stVal
  go_enter Tryd.func23, Tryd.ntmps23
  go_upto_region 1 with (fail)
  rw [← HW.out.1, ← HW.out.2.1]
  go_wp2_with fail
  have hp := Ha.out W1 B m F N s t HB1.out Hw.out H1.out.1 Ht.out.1 Ht.out.2.1 (by rw [← Hl.out.2]; have := Hl.out.1; omega)
  rw [← Hl.out.2] at hp
  unfold exVal at hp
  refine hp.mono ?_
  rintro E w2 ⟨rfl, m2, hM2, hG2⟩
  clear hp
  have xb0 := (hG2.cell (p := ⟨X, 0, none⟩) qX HmT.out).trans xa0
  have xb1 := (hG2.cell (p := ⟨X, 1, none⟩) qX HmT.out).trans xa1
  have xb2 := (hG2.cell (p := ⟨X, 2, none⟩) qX HmT.out).trans xa2
  have xb3 := (hG2.cell (p := ⟨X, 3, none⟩) qX HmT.out).trans xa3
  have xb4 := (hG2.cell (p := ⟨X, 4, none⟩) qX HmT.out).trans xa4
  have xb5 := (hG2.cell (p := ⟨X, 5, none⟩) qX HmT.out).trans xa5
  have xb6 := (hG2.cell (p := ⟨X, 6, none⟩) qX HmT.out).trans xa6
  have xb7 := (hG2.cell (p := ⟨X, 7, none⟩) qX HmT.out).trans xa7
  have xb8 := (hG2.cell (p := ⟨X, 8, none⟩) qX HmT.out).trans xa8
  have xb9 := (hG2.cell (p := ⟨X, 9, none⟩) qX HmT.out).trans xa9
  have xb10 := (hG2.cell (p := ⟨X, 10, none⟩) qX HmT.out).trans xa10
  have xb11 := (hG2.cell (p := ⟨X, 11, none⟩) qX HmT.out).trans xa11
  have xb12 := (hG2.cell (p := ⟨X, 12, none⟩) qX HmT.out).trans xa12
  have xb13 := (hG2.cell (p := ⟨X, 13, none⟩) qX HmT.out).trans xa13
  have HX2 := Lib.hid (And.intro (hG2.block qX HmT.out).2 (Nat.lt_of_lt_of_le qX hG2.oth.size))
  have H2 := Lib.hid (And.intro hM2 hG2)
  clear hM2 hG2 xa0 xa1 xa2 xa3 xa4 xa5 xa6 xa7 xa8 xa9 xa10 xa11 xa12 xa13
  go_wp2_with fail
  have hp := cases_any x aa ab ad ae ac na nb nd ne nc ca cb cd ce cc w0 oc mc kc Hc.out.1 Hc.out.2.1 Hc.out.2.2.1 Hc.out.2.2.2.1 w2 B m2 F N (s.add L0) t (H2.out.2.below HB1.out fun k e => Nat.le_trans Hw.out (Hmlo.out k e)) Hw.out H2.out.1 Ht.out.1 Hnn.out.1 Hnn.out.2.1 Hnn.out.2.2.1 Hnn.out.2.2.2.1 Hc.out.2.2.2.2
  rw [H2.out.2.b] at hp
  unfold stVal at hp
  refine hp.mono ?_
  rintro E w3 ⟨rfl, m3, hM3, hG3⟩
  clear hp
  have H3 := Lib.hid (And.intro hM3 hG3)
  clear hM3 hG3
  go_wp2_with fail
  refine bodyPost_end (results_none rfl _ _ _) rfl ?_
  exact ⟨rfl, m3, H3.out.1.mono Hnn.out.2.2.2.2, (GStep.of_below m HW.out.2.2).trans (H2.out.2.trans H3.out.2)⟩
set_option maxRecDepth 100000 in
set_option maxHeartbeats 8000000 in
theorem gs_for (x : St) (hk : x.kind = 7) (hs : x.name.size ≤ 16) (aa ab ad ae ac : Option Addr) (na nb nd ne nc ca cb cd ce cc : Nat) (w0 : World) (hza : 1 ≤ x.a.part) (hzb : 1 ≤ x.b.part) (ha : GxFor w0 x.a (.slice aa na ca)) (hb : GxFor w0 x.b (.slice ab nb cb)) (hdy : GlFor w0 x.body (.slice ad nd cd)) :
    GsFor w0 x (stVal x (.slice aa na ca) (.slice ab nb cb) (.slice ad nd cd) (.slice ae ne ce) (.slice ac nc cc)) := by
  intro W B m F N s t hB hwB h ht0 ht hN hP hl
  have hgn := gn_for (F := F) hk s t
  rw [← GS.out_len, hgn] at hl
  rw [hgn]
  obtain ⟨X, hX⟩ : ∃ X, X = W.heap.size := ⟨_, rfl⟩
  obtain ⟨W1, hW1⟩ : ∃ W1, W1 = W.alloc (.cells #[.int .i64 x.kind, .string x.name, .int .i64 x.n, .int .i64 x.a.kind, .int .i64 x.a.n, .string x.a.name, .slice aa na ca, .int .i64 x.b.kind, .int .i64 x.b.n, .string x.b.name, .slice ab nb cb, .slice ad nd cd, .slice ae ne ce, .slice ac nc cc] 56) := ⟨_, rfl⟩
  have hb1 : Below W.heap.size W W1 := by rw [hW1]; exact (Below.refl _ _).alloc (Nat.le_refl _) _
  have xa0 : W1.cell? ⟨X, 0, none⟩ = some (.int .i64 x.kind) := by rw [hW1, hX]; exact World.cell?_alloc_at _ _ _ _ rfl
  have xa1 : W1.cell? ⟨X, 1, none⟩ = some (.string x.name) := by rw [hW1, hX]; exact World.cell?_alloc_at _ _ _ _ rfl
  have xa2 : W1.cell? ⟨X, 2, none⟩ = some (.int .i64 x.n) := by rw [hW1, hX]; exact World.cell?_alloc_at _ _ _ _ rfl
  have xa3 : W1.cell? ⟨X, 3, none⟩ = some (.int .i64 x.a.kind) := by rw [hW1, hX]; exact World.cell?_alloc_at _ _ _ _ rfl
  have xa4 : W1.cell? ⟨X, 4, none⟩ = some (.int .i64 x.a.n) := by rw [hW1, hX]; exact World.cell?_alloc_at _ _ _ _ rfl
  have xa5 : W1.cell? ⟨X, 5, none⟩ = some (.string x.a.name) := by rw [hW1, hX]; exact World.cell?_alloc_at _ _ _ _ rfl
  have xa6 : W1.cell? ⟨X, 6, none⟩ = some (.slice aa na ca) := by rw [hW1, hX]; exact World.cell?_alloc_at _ _ _ _ rfl
  have xa7 : W1.cell? ⟨X, 7, none⟩ = some (.int .i64 x.b.kind) := by rw [hW1, hX]; exact World.cell?_alloc_at _ _ _ _ rfl
  have xa8 : W1.cell? ⟨X, 8, none⟩ = some (.int .i64 x.b.n) := by rw [hW1, hX]; exact World.cell?_alloc_at _ _ _ _ rfl
  have xa9 : W1.cell? ⟨X, 9, none⟩ = some (.string x.b.name) := by rw [hW1, hX]; exact World.cell?_alloc_at _ _ _ _ rfl
  have xa10 : W1.cell? ⟨X, 10, none⟩ = some (.slice ab nb cb) := by rw [hW1, hX]; exact World.cell?_alloc_at _ _ _ _ rfl
  have xa11 : W1.cell? ⟨X, 11, none⟩ = some (.slice ad nd cd) := by rw [hW1, hX]; exact World.cell?_alloc_at _ _ _ _ rfl
  have xa12 : W1.cell? ⟨X, 12, none⟩ = some (.slice ae ne ce) := by rw [hW1, hX]; exact World.cell?_alloc_at _ _ _ _ rfl
  have xa13 : W1.cell? ⟨X, 13, none⟩ = some (.slice ac nc cc) := by rw [hW1, hX]; exact World.cell?_alloc_at _ _ _ _ rfl
  have qX := block_lt_of_cell xa0
  have HmT : Hid (¬ m.T X) := fun e => by have := h.inT X e; omega
  have HB1 : Hid (Below w0.heap.size w0 W1) := hB.trans (hb1.mono hB.size)
  have htx := x.total_eq
  have hwt : wrap64 t = t := by unfold wrap64; omega
  have hwt1 : wrap64 (t + 1) = t + 1 := by unfold wrap64; omega
  have hN' : N ≤ N + x.total := Nat.le_add_right _ _
  have H1 := Lib.hid (And.intro (h.later hb1) hN')
  have HW := Lib.hid (And.intro hW1 (And.intro hX hb1))
  have Hmlo := Lib.hid h.low
  have Hw := Lib.hid hwB
  have Hs := Lib.hid hs
  have hpa := x.a.total_part
  have hpb := x.b.total_part
  have Ht := Lib.hid (show 0 ≤ t ∧ t + (x.a.total : Int) ≤ 1000000 ∧ (1 ≤ x.a.part → t + 1 + (x.b.total : Int) ≤ 1000000) ∧ t ≤ 1000000 by omega)
  have qb := h.in
  have hp := loop_any x hs aa ab ad ae ac na nb nd ne nc ca cb cd ce cc w0 hza hzb ha hb hdy W1 B m F N s t HB1.out hwB H1.out.1 ht0 ht hN hl
  have Hp := Lib.hid hp
  have q7 : (x.kind == 7) = true := by simp [hk]
  clear hB hwB h ht0 ht hl hX hW1 hb1 htx hs hgn hN hP hN' hpa hpb hk hp hza hzb ha hb hdy
  unfold stVal
  go_enter Tryd.func23, Tryd.ntmps23
  go_upto_region 1 with (fail)
  rw [← HW.out.1, ← HW.out.2.1]
  unfold ptrV at *
  go_wp2_with fail
  have hp := Hp.out
  unfold ptrV stVal at hp
  refine hp.mono ?_
  rintro E w3 ⟨rfl, m3, hM3, hG3⟩
  clear hp
  have H3 := Lib.hid (And.intro hM3 hG3)
  clear hM3 hG3
  go_wp2_with fail
  refine bodyPost_ret (results_none rfl _ _ _) rfl ?_
  exact ⟨rfl, m3, H3.out.1, (GStep.of_below m HW.out.2.2).trans H3.out.2⟩
/-- What a statement must be for its code to be laid without a fault. -/
def St.fit1 (x : St) : Prop := x.name.size ≤ 16 ∧ (x.kind ≠ 2 → x.kind ≠ 8 → x.a.fit ∧ 1 ≤ x.a.part) ∧ (x.kind = 4 ∨ x.kind = 7 → x.b.fit ∧ 1 ≤ x.b.part)
mutual
def St.fit : St → Prop
  | .mk k s n a b body els cases => (St.mk k s n a b body els cases).fit1 ∧ St.fits body ∧ St.fits els ∧ Cs.fits cases
def St.fits : List St → Prop
  | [] => True
  | x :: l => St.fit x ∧ St.fits l
def Cs.fits : List Cs → Prop
  | [] => True
  | x :: l => Cs.fit x ∧ Cs.fits l
def Cs.fit : Cs → Prop
  | .mk _ body => St.fits body
end
theorem St.fit_eq (x : St) : x.fit ↔ x.fit1 ∧ St.fits x.body ∧ St.fits x.els ∧ Cs.fits x.cases := by cases x; simp only [St.fit, St.body, St.els, St.cases]
theorem Cs.fit_eq (x : Cs) : x.fit ↔ St.fits x.body := by cases x; simp only [Cs.fit, Cs.body]
theorem St.fits_at {l : List St} (h : St.fits l) {i : Nat} {x : St} (hx : l[i]? = some x) : x.fit := by
  induction l generalizing i with
  | nil => simp at hx
  | cons y l ih =>
    simp only [St.fits] at h
    cases i with
    | zero => simp at hx; subst hx; exact h.1
    | succ i => exact ih h.2 (by simpa using hx)
theorem Cs.fits_at {l : List Cs} (h : Cs.fits l) {i : Nat} {x : Cs} (hx : l[i]? = some x) : x.fit := by
  induction l generalizing i with
  | nil => simp at hx
  | cons y l ih =>
    simp only [Cs.fits] at h
    cases i with
    | zero => simp at hx; subst hx; exact h.1
    | succ i => exact ih h.2 (by simpa using hx)
theorem slice_fun {Q : Nat → Option Addr → Nat → Nat → Prop} (h : ∀ i, ∃ p n c, Q i p n c) : ∃ (o : Nat → Option Addr) (m k : Nat → Nat), ∀ i, Q i (o i) (m i) (k i) :=
  ⟨fun i => Classical.choose (h i), fun i => Classical.choose (Classical.choose_spec (h i)), fun i => Classical.choose (Classical.choose_spec (Classical.choose_spec (h i))), fun i => Classical.choose_spec (Classical.choose_spec (Classical.choose_spec (h i)))⟩
/-- Any list of statements in memory that is fit. -/
theorem glist_any (l : List St) (v : Value) (w0 : World) (h : StsIn w0 l v) : St.fits l → GlFor w0 l v := by
  induction h with
  | mk l v va vb vd ve vc vk h ha hb hd he hc hk ihd ihe ihk =>
  intro hf
  obtain ⟨a, cap, rfl, _, _⟩ := h.form
  have fa : ∀ (i : Nat), ∃ p n c, ∀ x, l[i]? = some x → va i = .slice p n c := fun i => by
    cases hx : l[i]? with
    | none => exact ⟨none, 0, 0, fun x e => by cases e⟩
    | some x => obtain ⟨p, c, e, _⟩ := (ha i x hx).form; exact ⟨p, _, c, fun y e2 => by cases e2; exact e⟩
  have fb : ∀ (i : Nat), ∃ p n c, ∀ x, l[i]? = some x → vb i = .slice p n c := fun i => by
    cases hx : l[i]? with
    | none => exact ⟨none, 0, 0, fun x e => by cases e⟩
    | some x => obtain ⟨p, c, e, _⟩ := (hb i x hx).form; exact ⟨p, _, c, fun y e2 => by cases e2; exact e⟩
  have fd : ∀ (i : Nat), ∃ p n c, ∀ x, l[i]? = some x → vd i = .slice p n c := fun i => by
    cases hx : l[i]? with
    | none => exact ⟨none, 0, 0, fun x e => by cases e⟩
    | some x => obtain ⟨p, c, e, _⟩ := (hd i x hx).form; exact ⟨p, _, c, fun y e2 => by cases e2; exact e⟩
  have fe : ∀ (i : Nat), ∃ p n c, ∀ x, l[i]? = some x → ve i = .slice p n c ∧ n = x.els.length ∧ n ≤ c ∧ c ≤ maxLen := fun i => by
    cases hx : l[i]? with
    | none => exact ⟨none, 0, 0, fun x e => by cases e⟩
    | some x => obtain ⟨p, c, e, e1, e2⟩ := (he i x hx).form; exact ⟨p, _, c, fun y e2 => by cases e2; exact ⟨e, rfl, by assumption, by assumption⟩⟩
  have fc : ∀ (i : Nat), ∃ p n c, ∀ x, l[i]? = some x → vc i = .slice p n c ∧ n = x.cases.length := fun i => by
    cases hx : l[i]? with
    | none => exact ⟨none, 0, 0, fun x e => by cases e⟩
    | some x => obtain ⟨p, c, e, _⟩ := (hc i x hx).form; exact ⟨p, _, c, fun y e2 => by cases e2; exact ⟨e, rfl⟩⟩
  have fk : ∀ (i j : Nat), ∃ p n c, ∀ x y, l[i]? = some x → x.cases[j]? = some y → vk i j = .slice p n c := fun i j => by
    cases hx : l[i]? with
    | none => exact ⟨none, 0, 0, fun x y e => by cases e⟩
    | some x =>
      cases hy : x.cases[j]? with
      | none => exact ⟨none, 0, 0, fun x' y e e2 => by cases e; rw [hy] at e2; cases e2⟩
      | some y => obtain ⟨p, c, e, _⟩ := (hk i x j y hx hy).form; exact ⟨p, _, c, fun x' y' e1 e2 => by cases e1; exact e⟩
  obtain ⟨oa, ma, ka, ga⟩ := slice_fun fa
  obtain ⟨ob, mb, kb, gb⟩ := slice_fun fb
  obtain ⟨od, md, kd, gd⟩ := slice_fun fd
  obtain ⟨oe, me, ke, ge⟩ := slice_fun fe
  obtain ⟨oc, mc, kc, gc⟩ := slice_fun fc
  refine glist_row l a _ cap rfl oa ob od oe oc ma mb md me mc ka kb kd ke kc w0 ?_ ?_
  · refine h.imp (Nat.le_refl _) fun b o i _ _ hP x hx => ?_
    have h1 := hP x hx
    rw [ga i x hx, gb i x hx, gd i x hx, (ge i x hx).1, (gc i x hx).1] at h1
    exact h1
  · intro i x hx
    obtain ⟨⟨hs, hfa, hfb⟩, hfd, hfe, hfc⟩ := (St.fit_eq x).1 (St.fits_at hf hx)
    have xa : x.kind ≠ 2 → x.kind ≠ 8 → GxFor w0 x.a (.slice (oa i) (ma i) (ka i)) := fun h2 h8 => by rw [← ga i x hx]; exact gexpr_any _ _ w0 (ha i x hx) x.a rfl (hfa h2 h8).1
    have xb : x.kind = 4 ∨ x.kind = 7 → GxFor w0 x.b (.slice (ob i) (mb i) (kb i)) := fun h4 => by rw [← gb i x hx]; exact gexpr_any _ _ w0 (hb i x hx) x.b rfl (hfb h4).1
    have xd : GlFor w0 x.body (.slice (od i) (md i) (kd i)) := by rw [← gd i x hx]; exact ihd i x hx hfd
    have xe : GlFor w0 x.els (.slice (oe i) (me i) (ke i)) := by rw [← (ge i x hx).1]; exact ihe i x hx hfe
    refine ⟨hs, fun h1 => xa (by omega) (by omega), fun h1 h2 => ?_⟩
    by_cases h8 : x.kind = 8
    · exact gs_break x h8 hs _ _ _ _ _ _ _ _ _ _ _ _ _ _ _ w0
    by_cases h7 : x.kind = 7
    · exact gs_for x h7 hs _ _ _ _ _ _ _ _ _ _ _ _ _ _ _ w0 (hfa h2 h8).2 (hfb (.inr h7)).2 (xa h2 h8) (xb (.inr h7)) xd
    by_cases h6 : x.kind = 6
    · obtain ⟨ok, mk, kk, gk⟩ := slice_fun (fk i)
      refine gs_switch x h6 hs _ _ _ _ _ _ _ _ _ _ _ _ _ _ _ w0 ok mk kk (gc i x hx).2 (hfa h2 h8).2 ?_ (fun j y hy => ?_) (xa h2 h8) xe
      · have h3 := hc i x hx
        rw [(gc i x hx).1, ← (gc i x hx).2] at h3
        refine h3.imp (Nat.le_refl _) fun b o j _ _ hP y hy => ?_
        have h4 := hP y hy
        rw [gk j x y hx hy] at h4
        exact h4
      · rw [← gk j x y hx hy]; exact ihk i x j y hx hy ((Cs.fit_eq y).1 (Cs.fits_at hfc hy))
    by_cases h5 : x.kind = 5
    · exact gs_if x h5 hs _ _ _ _ _ _ _ _ _ _ _ _ _ _ _ w0 (ge i x hx).2.1 (xa h2 h8) xd xe
    by_cases h4 : x.kind = 4
    · exact gs_store x h4 hs _ _ _ _ _ _ _ _ _ _ _ _ _ _ _ w0 (hfa h2 h8).2 (xa h2 h8) (xb (.inl h4))
    by_cases h3 : x.kind = 3
    · exact gs_assign x h3 hs _ _ _ _ _ _ _ _ _ _ _ _ _ _ _ w0 (xa h2 h8)
    by_cases h9 : x.kind = 9
    · exact gs_return x h9 hs _ _ _ _ _ _ _ _ _ _ _ _ _ _ _ w0 (xa h2 h8)
    exact gs_plain x h3 h4 h5 h6 h7 h8 h9 hs _ _ _ _ _ _ _ _ _ _ _ _ _ _ _ w0 (xa h2 h8)
end Go.Proofs.YtgobcldecokppaaDoor
