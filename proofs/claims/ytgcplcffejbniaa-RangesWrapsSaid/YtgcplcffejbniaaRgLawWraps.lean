/- ranges: the walk of RangesWraps. -/
import Derived.Test.YtgcplcffejbniaaRgAwk
import Derived.Test.YtgcplcffejbniaaRgRets
import Derived.Test.YtgcplcffejbniaaRgLift
namespace Go.Proofs.Ytgcplcffejbniaa
open Go.RowKit Go.Maps

/-- The statement that wraps, with its Body. -/
theorem wrS_in {w : World} {E : Nat} {c : Bool} {body : List St} {v : Value} (h : StAt w E 0 (wrS c body) nilV nilV v nilV nilV) (hE : E < w.heap.size) (hb : StsIn w body v) : StsIn w [wrS c body] (.slice (some ⟨E, 0, none⟩) 1 1) := by
  refine .mk _ _ (fun _ => nilV) (fun _ => nilV) (fun _ => v) (fun _ => nilV) (fun _ => nilV) (fun _ _ => nilV) ⟨some ⟨E, 0, none⟩, 1, rfl, Nat.le_refl _, by decide, by simp, fun _ => ⟨E, 0, rfl, hE, fun i hi x hx => ?_⟩⟩ (fun i x hx => ?_) (fun i x hx => ?_) (fun i x hx => ?_) (fun i x hx => ?_) (fun i x hx => ?_) (fun i x k y hx hy => ?_)
  · obtain ⟨rfl, rfl⟩ := pm1 i hx
    simpa using h
  all_goals obtain ⟨rfl, rfl⟩ := pm1 i hx
  · exact exsIn_nil w
  · cases c <;> exact exsIn_nil w
  · exact hb
  · exact stsIn_nil w
  · exact rowOf_nil _ _ _
  · simp [wrS, St.cases] at hy
theorem numX_rng (n : Int) (h : in64 n) : (numX n).rng := (Ex.rng_eq _).2 ⟨h, trivial⟩
theorem wrS_rng (c : Bool) {l : List St} (h : St.rngs l) : St.rngs [wrS c l] := by
  have z : in64 0 := ⟨by decide, by decide⟩
  have o : in64 1 := ⟨by decide, by decide⟩
  have e : zeroX.rng := (Ex.rng_eq _).2 ⟨z, trivial⟩
  cases c
  · exact ⟨(St.rng_eq _).2 ⟨z, numX_rng 1 o, e, h, trivial, trivial⟩, trivial⟩
  · exact ⟨(St.rng_eq _).2 ⟨z, numX_rng 0 z, numX_rng 1 o, h, trivial, trivial⟩, trivial⟩
theorem withBody_rng {p : Pg} {n : Nat} {f : Fn} {c : Bool} (h : p.rng) (hf : p.funcs[n]? = some f) : (p.withBody n [wrS c f.body]).rng := fun y hy => by
  obtain ⟨i, hi⟩ := List.getElem?_of_mem hy
  by_cases e : i = n
  · subst e
    rw [Pg.withBody_at hf] at hi
    cases hi
    exact ⟨wrS_rng c (Pg.rng_at h hf), (h f (List.mem_of_getElem? hf)).2⟩
  · rw [Pg.withBody_ne p e] at hi
    exact h y (List.mem_of_getElem? hi)
/-- The number of a fault is small. -/
theorem Pg.rfault_low {p : Pg} (h : p.fault.1 = 0) (h3 : p.nfault.1 = 0) : 0 ≤ p.rfault.2.2 ∧ p.rfault.2.2 ≤ 5000 := by
  rw [Pg.rfault_ok h3]
  rcases Fn.rfaults_cases [] p.funcs 0 with h1 | ⟨i, x, hx, h0, hz⟩
  · rw [Fn.rfaults_none h1]; decide
  · rw [Fn.rfaults_hit hx h0 hz]
    have ht := ((Pg.good h).2 i x hx).total
    have hle := St.rchks_le (x.params.map (·.name)) (arOf ([] ++ p.funcs.take i)) x.body
    unfold Fn.rfault
    split
    · constructor <;> simp
    · split
      · simp only; omega
      · constructor <;> simp
/-- The blocks of a round: the program's box, its own's, the fault, the statement's kind. -/
structure WrapAt (w : World) (B C D X : Nat) (vw vf ow of : Value) (ea eb ec kx : Int) : Prop where
  c0 : w.cell? ⟨B, 0, none⟩ = some vw
  c1 : w.cell? ⟨B, 1, none⟩ = some vf
  d0 : w.cell? ⟨C, 0, none⟩ = some ow
  d1 : w.cell? ⟨C, 1, none⟩ = some of
  f0 : w.cell? ⟨D, 0, none⟩ = some (.int .i64 ea)
  f1 : w.cell? ⟨D, 1, none⟩ = some (.int .i64 eb)
  f2 : w.cell? ⟨D, 2, none⟩ = some (.int .i64 ec)
  k0 : w.cell? ⟨X, 0, none⟩ = some (.int .i64 kx)
theorem WrapAt.oth {S : Nat → Prop} {w w' : World} {B C D X : Nat} {vw vf ow of : Value} {ea eb ec kx : Int} (h : WrapAt w B C D X vw vf ow of ea eb ec kx) (hO : Oth S w w') (hS : ∀ b, S b → b ≠ B ∧ b ≠ C ∧ b ≠ D ∧ b ≠ X) : WrapAt w' B C D X vw vf ow of ea eb ec kx :=
  have qB := block_lt_of_cell h.c0
  have qC := block_lt_of_cell h.d0
  have qD := block_lt_of_cell h.f0
  have qX := block_lt_of_cell h.k0
  have sB : ¬ S B := fun h => (hS B h).1 rfl
  have sC : ¬ S C := fun h => (hS C h).2.1 rfl
  have sD : ¬ S D := fun h => (hS D h).2.2.1 rfl
  have sX : ¬ S X := fun h => (hS X h).2.2.2 rfl
  ⟨(hO.cell (p := ⟨B, 0, none⟩) qB sB).trans h.c0, (hO.cell (p := ⟨B, 1, none⟩) qB sB).trans h.c1, (hO.cell (p := ⟨C, 0, none⟩) qC sC).trans h.d0, (hO.cell (p := ⟨C, 1, none⟩) qC sC).trans h.d1,
    (hO.cell (p := ⟨D, 0, none⟩) qD sD).trans h.f0, (hO.cell (p := ⟨D, 1, none⟩) qD sD).trans h.f1, (hO.cell (p := ⟨D, 2, none⟩) qD sD).trans h.f2, (hO.cell (p := ⟨X, 0, none⟩) qX sX).trans h.k0⟩
theorem WrapAt.oth2 {S : Nat → Prop} {w w' : World} {B C D X : Nat} {vw vf ow of : Value} {ea eb ec kx : Int} (h : WrapAt w B C D X vw vf ow of ea eb ec kx) (hO : Oth S w w') (hS : ∀ b, S b → b ≠ B ∧ b ≠ C ∧ b ≠ D) (hk : w'.cell? ⟨X, 0, none⟩ = some (.int .i64 kx)) : WrapAt w' B C D X vw vf ow of ea eb ec kx :=
  have qB := block_lt_of_cell h.c0
  have qC := block_lt_of_cell h.d0
  have qD := block_lt_of_cell h.f0
  have sB : ¬ S B := fun h => (hS B h).1 rfl
  have sC : ¬ S C := fun h => (hS C h).2.1 rfl
  have sD : ¬ S D := fun h => (hS D h).2.2 rfl
  ⟨(hO.cell (p := ⟨B, 0, none⟩) qB sB).trans h.c0, (hO.cell (p := ⟨B, 1, none⟩) qB sB).trans h.c1, (hO.cell (p := ⟨C, 0, none⟩) qC sC).trans h.d0, (hO.cell (p := ⟨C, 1, none⟩) qC sC).trans h.d1,
    (hO.cell (p := ⟨D, 0, none⟩) qD sD).trans h.f0, (hO.cell (p := ⟨D, 1, none⟩) qD sD).trans h.f1, (hO.cell (p := ⟨D, 2, none⟩) qD sD).trans h.f2, hk⟩
theorem WrapAt.later {w w' : World} {B C D X : Nat} {vw vf ow of : Value} {ea eb ec kx : Int} (h : WrapAt w B C D X vw vf ow of ea eb ec kx) (hb : Below w.heap.size w w') : WrapAt w' B C D X vw vf ow of ea eb ec kx :=
  h.oth (S := fun _ => False) (.of_below hb) (fun _ h => h.elim)
set_option maxRecDepth 100000 in
set_option maxHeartbeats 16000000 in
theorem rgLawWraps_any (W : World) (p : Pg) (vw vf : Value) (vp vb : Nat → Value) (k : Int) (h : PgIn W p vw vf vp vb) (_ : p.near) (hrg : p.rng) (hk : in64 k) : Calls Try.prog 8 #[pgV vw vf, .int .i64 k] W (Gives (.bool true) W) := by
  obtain ⟨aw, cw, rfl, -⟩ := h.widen.row.form
  obtain ⟨a, cap, rfl, hc1, hc2⟩ := h.funcs.row.form
  obtain ⟨n, hn⟩ : ∃ n, n = p.funcs.length := ⟨_, rfl⟩
  obtain ⟨m, hm⟩ : ∃ m, m = p.widen.length := ⟨_, rfl⟩
  rw [← hn, ← hm] at h
  rw [← hn, ← hm]
  rw [← hn] at hc1
  have hn62 : n ≤ 9223372036854775807 := by have : maxLen ≤ 9223372036854775807 := by decide
                                            omega
  have hk12 : -9223372036854775808 ≤ k ∧ k ≤ 9223372036854775807 := hk
  obtain ⟨hk1, hk2⟩ := hk12
  have HP := Lib.hid h
  have Hl := Lib.hid (And.intro hm hn)
  have Hrg := Lib.hid hrg
  have Hk := Lib.hid hk
  have Hrow : Hid (RowOf W (.slice a n cap) p.funcs.length 3 (fun b o i => ∀ x, p.funcs[i]? = some x → FnCells W b o x (vp i) (vb i))) := by have := h.funcs.row; rw [hn] at this ⊢; exact this
  obtain ⟨W1, hW1⟩ : ∃ W1, W1 = W.alloc (.cells #[.slice aw m cw, .slice a n cap] 26) := ⟨_, rfl⟩
  obtain ⟨B, hB⟩ : ∃ B, B = W.heap.size := ⟨_, rfl⟩
  have hb1 : Below W.heap.size W W1 := by rw [hW1]; exact (Below.refl _ _).alloc (Nat.le_refl _) _
  have c0 : W1.cell? ⟨B, 0, none⟩ = some (.slice aw m cw) := by rw [hW1, hB]; exact World.cell?_alloc_at _ _ _ _ rfl
  have c1 : W1.cell? ⟨B, 1, none⟩ = some (.slice a n cap) := by rw [hW1, hB]; exact World.cell?_alloc_at _ _ _ _ rfl
  have qB : B < W1.heap.size := by rw [hW1, hB]; simp
  have HW1 := Lib.hid (And.intro hW1 hB)
  have H1 := Lib.hid (And.intro hb1 (And.intro c0 c1))
  unfold pgV
  clear h hn hm hrg hk hW1 hB hb1 c0 c1
  go_enter Try.func8, Try.ntmps8
  go_upto_region 1 with (fail)
  rw [← HW1.out.1, ← HW1.out.2]
  go_wp2_with fail
  refine (rgAwake_any W1).mono ?_
  rintro e w2 ⟨rfl, hb2⟩
  have d0 := (hb2.cell (p := ⟨B, 0, none⟩) qB).trans H1.out.2.1
  have d1 := (hb2.cell (p := ⟨B, 1, none⟩) qB).trans H1.out.2.2
  have H2 := Lib.hid (And.intro (H1.out.1.trans (hb2.mono H1.out.1.size)) (And.intro d0 d1))
  have q2 : B < w2.heap.size := Nat.lt_of_lt_of_le qB hb2.size
  clear hb2
  go_wp2_with fail
  refine (rgCheck_any p (.slice aw m cw) (.slice a n cap) vp vb w2 (HP.out.later H2.out.1) Hrg.out).mono ?_
  rintro e w3 ⟨rfl, hb3⟩
  obtain ⟨t, ht⟩ : ∃ t, t = p.rfault := ⟨_, rfl⟩
  rw [← ht]
  have Ht := Lib.hid ht
  obtain ⟨ea, eb, ec⟩ := t
  unfold fltV
  obtain ⟨W4, hW4⟩ : ∃ W4, W4 = w3.alloc (.cells #[.int .i64 ea, .int .i64 eb, .int .i64 ec] 29) := ⟨_, rfl⟩
  obtain ⟨D, hD⟩ : ∃ D, D = w3.heap.size := ⟨_, rfl⟩
  have hb4 : Below w3.heap.size w3 W4 := by rw [hW4]; exact (Below.refl _ _).alloc (Nat.le_refl _) _
  have f0 : W4.cell? ⟨D, 0, none⟩ = some (.int .i64 ea) := by rw [hW4, hD]; exact World.cell?_alloc_at _ _ _ _ rfl
  have f1 : W4.cell? ⟨D, 1, none⟩ = some (.int .i64 eb) := by rw [hW4, hD]; exact World.cell?_alloc_at _ _ _ _ rfl
  have f2 : W4.cell? ⟨D, 2, none⟩ = some (.int .i64 ec) := by rw [hW4, hD]; exact World.cell?_alloc_at _ _ _ _ rfl
  have hb24 : Below w2.heap.size w2 W4 := hb3.trans (hb4.mono hb3.size)
  have H4 := Lib.hid (And.intro (H2.out.1.trans (hb24.mono H2.out.1.size)) (And.intro ((hb24.cell (p := ⟨B, 0, none⟩) q2).trans H2.out.2.1) (And.intro ((hb24.cell (p := ⟨B, 1, none⟩) q2).trans H2.out.2.2) (And.intro f0 (And.intro f1 f2)))))
  have q4 : B < W4.heap.size := Nat.lt_of_lt_of_le q2 hb24.size
  have q4D : D < W4.heap.size := by rw [hW4, hD]; simp
  have HW4 := Lib.hid (And.intro hW4 hD)
  clear ht hb3 hb4 hb24 hW4 hD f0 f1 f2 d0 d1
  go_upto_region 4 with (fail)
  rw [← HW4.out.1, ← HW4.out.2]
  obtain ⟨-, c0, c1, f0, f1, f2⟩ := H4.out
  go_wp2_with fail
  refine (ncheck_any p (.slice aw m cw) (.slice a n cap) vp vb W4 (HP.out.later H4.out.1)).mono ?_
  rintro e w5 ⟨rfl, hb5⟩
  have H5 := Lib.hid (And.intro (H4.out.1.trans (hb5.mono H4.out.1.size)) (And.intro ((hb5.cell (p := ⟨B, 0, none⟩) q4).trans c0) (And.intro ((hb5.cell (p := ⟨B, 1, none⟩) q4).trans c1) (And.intro ((hb5.cell (p := ⟨D, 0, none⟩) q4D).trans f0) (And.intro ((hb5.cell (p := ⟨D, 1, none⟩) q4D).trans f1) ((hb5.cell (p := ⟨D, 2, none⟩) q4D).trans f2))))))
  have q5 : B < w5.heap.size := Nat.lt_of_lt_of_le q4 hb5.size
  have q5D : D < w5.heap.size := Nat.lt_of_lt_of_le q4D hb5.size
  obtain ⟨u, hu⟩ : ∃ u, u = p.nfault := ⟨_, rfl⟩
  rw [← hu]
  have Hu := Lib.hid hu
  obtain ⟨ga, gb, gc⟩ := u
  unfold fltV
  clear hu hb5 c0 c1 f0 f1 f2
  obtain ⟨-, c0, c1, f0, f1, f2⟩ := H5.out
  have hfe := rgRun_faultE
  by_cases hin : ga = 0 ∧ 0 ≤ k ∧ k < n
  · obtain ⟨hg, hk0, hkn⟩ := hin
    subst hg
    obtain ⟨j, rfl⟩ : ∃ j : Nat, k = (j : Int) := ⟨k.toNat, by omega⟩
    have hjn : j < n := by omega
    obtain ⟨f, hf⟩ : ∃ f, p.funcs[j]? = some f := ⟨_, List.getElem?_eq_getElem (by rw [← Hl.out.2]; exact hjn)⟩
    have hnz : p.nfault.1 = 0 := by rw [← Hu.out]
    have hfz : p.fault.1 = 0 := by
      by_cases e : p.fault.1 = 0
      · exact e
      · rw [Pg.nfault_bad e] at hnz; exact absurd hnz e
    have Hf := Lib.hid (And.intro hf (And.intro hfz hnz))
    have hlow := Pg.rfault_low hfz hnz
    rw [← Ht.out] at hlow
    have hlow2 : 0 ≤ ec ∧ ec ≤ 5000 := hlow
    obtain ⟨hlo1, hlo2⟩ := hlow2
    have hd1 : decide ((j : Int) < 0) = false := by simp
    have hd2 : decide ((n : Int) ≤ (j : Int)) = false := by simp; omega
    clear hf hfz hnz hk0 hkn hlow
    go_wp2_with fail
    clear hd1 hd2
    --<A
    refine (number_any 1 _).mono ?_
    rintro e w6a ⟨rfl, hb6a⟩
    unfold nilV
    have H6a := Lib.hid hb6a
    clear hb6a
    go_wp2_with fail
    refine (number_any 0 _).mono ?_
    rintro e w6b ⟨rfl, hb6b⟩
    unfold nilV
    have H6b := Lib.hid (H6a.out.trans (hb6b.mono H6a.out.size))
    clear hb6b
    go_wp2_with fail
    refine (number_any 1 _).mono ?_
    rintro e w6 ⟨rfl, hb6⟩
    unfold nilV
    have hb56 := H6b.out.trans (hb6.mono H6b.out.size)
    obtain ⟨X, hX⟩ : ∃ X, X = w6.heap.size := ⟨_, rfl⟩
    obtain ⟨W6, hW6⟩ : ∃ W, W = w6.alloc (.cells #[.int .i64 5, .string ⟨#[]⟩, .int .i64 0, .int .i64 1, .int .i64 1, .string ⟨#[]⟩, .slice none 0 0, .int .i64 0, .int .i64 0, .string ⟨#[]⟩, .slice none 0 0, .slice none 0 0, .slice none 0 0, .slice none 0 0,
      .int .i64 7, .string ⟨#[122, 122, 122]⟩, .int .i64 0, .int .i64 1, .int .i64 0, .string ⟨#[]⟩, .slice none 0 0, .int .i64 1, .int .i64 1, .string ⟨#[]⟩, .slice none 0 0, .slice none 0 0, .slice none 0 0, .slice none 0 0] 48) := ⟨_, rfl⟩
    have hbA : Below w6.heap.size w6 W6 := by rw [hW6]; exact (Below.refl _ _).alloc (Nat.le_refl _) _
    have hX6 : ∀ i : Nat, i < 2 → StAt W6 X (i * 14) (wrS (decide (i = 1)) []) nilV nilV nilV nilV nilV := fun i hi => by
      rw [hW6, hX]
      rcases (by omega : i = 0 ∨ i = 1) with rfl | rfl
      · constructor <;> exact World.cell?_alloc_at _ _ _ _ rfl
      · constructor <;> exact World.cell?_alloc_at _ _ _ _ rfl
    have hb56' : Below w5.heap.size w5 W6 := hb56.trans (hbA.mono hb56.size)
    have hXl : X < W6.heap.size := by rw [hW6, hX]; simp
    have c0' := (hb56'.cell (p := ⟨B, 0, none⟩) q5).trans c0
    have c1' := (hb56'.cell (p := ⟨B, 1, none⟩) q5).trans c1
    have f0' := (hb56'.cell (p := ⟨D, 0, none⟩) q5D).trans f0
    have f1' := (hb56'.cell (p := ⟨D, 1, none⟩) q5D).trans f1
    have f2' := (hb56'.cell (p := ⟨D, 2, none⟩) q5D).trans f2
    have H6 := Lib.hid (And.intro (H5.out.1.trans (hb56'.mono H5.out.1.size)) (And.intro hX6 (And.intro (And.intro c0' c1') (And.intro f0' (And.intro f1' f2')))))
    have q6B : B < W6.heap.size := block_lt_of_cell c0'
    have q6D : D < W6.heap.size := block_lt_of_cell f0'
    have HW6 := Lib.hid (And.intro hW6 hX)
    clear hb6 hb56 hX hW6 hbA hX6 hb56' c0' c1' f0' f1' f2' c0 c1 f0 f1 f2
    go_wp2_with fail
    rw [← HW6.out.2, ← HW6.out.1]
    go_loopg [47] 2 (fun gg iv wx => ∃ i : Nat, gg = 2 - i ∧ iv = .int .i64 (i : Int) ∧ i ≤ 2 ∧ Below W6.heap.size W6 wx)
    case atStart => exact ⟨0, rfl, rfl, by omega, Below.refl _ _⟩
    case round =>
      obtain ⟨i, hgg, rfl, hi2, hO⟩ := hrel
      have Hgg := Lib.hid hgg
      have HO := Lib.hid hO
      clear hgg
      by_cases hin : i < 2
      · obtain ⟨c, hcb⟩ : ∃ c, c = decide (i = 1) := ⟨_, rfl⟩
        have hx0 := (H6.out.2.1 i hin).later hO hXl
        rw [← hcb] at hx0
        have c0 := (hO.cell (p := ⟨B, 0, none⟩) q6B).trans H6.out.2.2.1.1
        have c1 := (hO.cell (p := ⟨B, 1, none⟩) q6B).trans H6.out.2.2.1.2
        have f0 := (hO.cell (p := ⟨D, 0, none⟩) q6D).trans H6.out.2.2.2.1
        have f1 := (hO.cell (p := ⟨D, 1, none⟩) q6D).trans H6.out.2.2.2.2.1
        have f2 := (hO.cell (p := ⟨D, 2, none⟩) q6D).trans H6.out.2.2.2.2.2
        have hbWr := H6.out.1.trans (hO.mono H6.out.1.size)
        obtain ⟨kx, hkx⟩ : ∃ v, v = (wrS c []).kind := ⟨_, rfl⟩
        obtain ⟨sx, hsx⟩ : ∃ v, v = (wrS c []).name := ⟨_, rfl⟩
        obtain ⟨nx, hnx⟩ : ∃ v, v = (wrS c []).n := ⟨_, rfl⟩
        obtain ⟨ak, hak⟩ : ∃ v, v = (wrS c []).a.kind := ⟨_, rfl⟩
        obtain ⟨an, han⟩ : ∃ v, v = (wrS c []).a.n := ⟨_, rfl⟩
        obtain ⟨asn, has⟩ : ∃ v, v = (wrS c []).a.name := ⟨_, rfl⟩
        obtain ⟨bk, hbk⟩ : ∃ v, v = (wrS c []).b.kind := ⟨_, rfl⟩
        obtain ⟨bn, hbn⟩ : ∃ v, v = (wrS c []).b.n := ⟨_, rfl⟩
        obtain ⟨bs, hbs⟩ : ∃ v, v = (wrS c []).b.name := ⟨_, rfl⟩
        obtain ⟨i0, i1, i2, i3, i4, i5, i6, i7, i8, i9, i10, i11, i12, i13⟩ := hx0
        rw [← hkx] at i0
        rw [← hsx] at i1
        rw [← hnx] at i2
        rw [← hak] at i3
        rw [← han] at i4
        rw [← has] at i5
        rw [← hbk] at i7
        rw [← hbn] at i8
        rw [← hbs] at i9
        unfold nilV at i6 i10 i11 i12 i13
        have Hx := Lib.hid (And.intro hkx (And.intro hsx (And.intro hnx (And.intro hak (And.intro han (And.intro has (And.intro hbk (And.intro hbn hbs))))))))
        obtain ⟨Xb, hXb⟩ : ∃ b, b = wr.heap.size := ⟨_, rfl⟩
        obtain ⟨W7, hW7⟩ : ∃ W, W = wr.alloc (.cells #[.int .i64 kx, .string sx, .int .i64 nx, .int .i64 ak, .int .i64 an, .string asn, .slice none 0 0, .int .i64 bk, .int .i64 bn, .string bs, .slice none 0 0, .slice none 0 0, .slice none 0 0, .slice none 0 0] 48) := ⟨_, rfl⟩
        have hb7 : Below wr.heap.size wr W7 := by rw [hW7]; exact (Below.refl _ _).alloc (Nat.le_refl _) _
        have x7 : ∀ (q : Nat) u, (#[.int .i64 kx, .string sx, .int .i64 nx, .int .i64 ak, .int .i64 an, .string asn, .slice none 0 0, .int .i64 bk, .int .i64 bn, .string bs, .slice none 0 0, .slice none 0 0, .slice none 0 0, .slice none 0 0] : Array Value)[q]? = some u → W7.cell? ⟨Xb, q, none⟩ = some u := fun q u hu => by
          rw [hW7, hXb, World.cell?_alloc_at _ _ _ _ rfl]; exact hu
        have xf7 : W7.frozen? ⟨Xb, 11, none⟩ = false := by rw [hW7, hXb]; exact World.frozen?_alloc_at _ _ _ _ rfl
        have hXb7 : Xb < W7.heap.size := block_lt_of_cell (x7 0 _ rfl)
        have c07 := (hb7.cell (p := ⟨B, 0, none⟩) (block_lt_of_cell c0)).trans c0
        have c17 := (hb7.cell (p := ⟨B, 1, none⟩) (block_lt_of_cell c1)).trans c1
        have f07 := (hb7.cell (p := ⟨D, 0, none⟩) (block_lt_of_cell f0)).trans f0
        have f17 := (hb7.cell (p := ⟨D, 1, none⟩) (block_lt_of_cell f1)).trans f1
        have f27 := (hb7.cell (p := ⟨D, 2, none⟩) (block_lt_of_cell f2)).trans f2
        have hBr : B < wr.heap.size := block_lt_of_cell c0
        have hDr : D < wr.heap.size := block_lt_of_cell f0
        have H7 := Lib.hid (And.intro (HO.out.trans (hb7.mono HO.out.size)) (And.intro (hbWr.trans (hb7.mono hbWr.size)) (And.intro x7 xf7)))
        have HW7 := Lib.hid (And.intro hW7 hXb)
        have hXr : wr.heap.size ≤ Xb := by omega
        clear hO hbWr hkx hsx hnx hak han has hbk hbn hbs hXb hW7 hb7 x7 xf7 c0 c1 f0 f1 f2 hcb
        go_upto_region 9 with (fail)
        rw [← HW7.out.1, ← HW7.out.2]
        clear i0 i1 i2 i3 i4 i5 i6 i7 i8 i9 i10 i11 i12 i13
        go_wp2_with fail
        refine (copy_any p (.slice aw m cw) (.slice a n cap) vp vb W HP.out (Pg.small_of Hf.out.2.1) W7 H7.out.2.1).mono ?_
        rintro e w8 ⟨v8, rfl, hb8, ho8⟩
        obtain ⟨mid, gw, ocw, g, ocap, vp', vb', q, m0, m1, gp, cp, rfl, how, hoc, ho⟩ := ho8
        have HOw := Lib.hid ho
        have hgl := ho.fns.hg
        have hgmid := ho.hw
        rw [← Hl.out.1] at how ⊢
        rw [← Hl.out.2] at hoc ⊢
        have hoc2 : n ≤ ocap := Nat.le_of_lt hoc
        obtain ⟨abo, cbo, hvb, -⟩ := (ho.fns.each j f (by rw [← Hl.out.2]; exact hjn) Hf.out.1).body.reads.form
        obtain ⟨nb, hnb⟩ : ∃ nb, nb = f.body.length := ⟨_, rfl⟩
        rw [← hnb] at hvb
        have gc2 : w8.cell? ⟨g, j * 3 + 2, none⟩ = some (.slice abo nb cbo) := by
          obtain ⟨_, _, _, k4⟩ := ownsRow_rowOf ho.fns.own (fnRow_len p.funcs vp' vb')
          exact k4 j 2 _ (by rw [← Hl.out.2]; exact hjn) (by decide) (by rw [fnRow_at Hf.out.1, hvb]; rfl)
        have gfz : w8.frozen? ⟨g, j * 3 + 2, none⟩ = false := World.ownsRow.frozenAt ho.fns.own _
        have Hvb := Lib.hid hvb
        have q8 := hb8.size
        obtain ⟨C, hC⟩ : ∃ C, C = w8.heap.size := ⟨_, rfl⟩
        obtain ⟨W9, hW9⟩ : ∃ w : World, w = w8.alloc (.cells #[.slice (some ⟨gw, 0, none⟩) m ocw, .slice (some ⟨g, 0, none⟩) n ocap] 26) := ⟨_, rfl⟩
        have hb89 : Below w8.heap.size w8 W9 := by rw [hW9]; exact (Below.refl _ _).alloc (Nat.le_refl _) _
        have hb79 : Below W7.heap.size W7 W9 := hb8.trans (hb89.mono hb8.size)
        have hC8 : w8.heap.size ≤ C ∧ C ≤ w8.heap.size := by omega
        have hA9 : WrapAt W9 B C D Xb (.slice aw m cw) (.slice a n cap) (.slice (some ⟨gw, 0, none⟩) m ocw) (.slice (some ⟨g, 0, none⟩) n ocap) ea eb ec kx := by
          refine ⟨(hb79.cell (p := ⟨B, 0, none⟩) (by show B < _; omega)).trans c07, (hb79.cell (p := ⟨B, 1, none⟩) (by show B < _; omega)).trans c17, ?_, ?_, (hb79.cell (p := ⟨D, 0, none⟩) (by show D < _; omega)).trans f07, (hb79.cell (p := ⟨D, 1, none⟩) (by show D < _; omega)).trans f17, (hb79.cell (p := ⟨D, 2, none⟩) (by show D < _; omega)).trans f27, (hb79.cell (p := ⟨Xb, 0, none⟩) hXb7).trans (H7.out.2.2.1 0 _ rfl)⟩
          · rw [hW9, hC]; exact World.cell?_alloc_at _ _ _ _ rfl
          · rw [hW9, hC]; exact World.cell?_alloc_at _ _ _ _ rfl
        have x9 : ∀ (q : Nat) u, (#[.int .i64 kx, .string sx, .int .i64 nx, .int .i64 ak, .int .i64 an, .string asn, .slice none 0 0, .int .i64 bk, .int .i64 bn, .string bs, .slice none 0 0, .slice none 0 0, .slice none 0 0, .slice none 0 0] : Array Value)[q]? = some u → W9.cell? ⟨Xb, q, none⟩ = some u := fun q u hu => (hb79.cell (p := ⟨Xb, q, none⟩) hXb7).trans (H7.out.2.2.1 q u hu)
        have xf9 := (hb79.frozen (p := ⟨Xb, 11, none⟩) hXb7).trans H7.out.2.2.2
        have gc9 := (hb89.cell (p := ⟨g, j * 3 + 2, none⟩) hgl.2).trans gc2
        have gf9 := (hb89.frozen (p := ⟨g, j * 3 + 2, none⟩) hgl.2).trans gfz
        have hgX : Xb < g := by omega
        have hgC : g < C := by omega
        have q9 : C < W9.heap.size := block_lt_of_cell hA9.d0
        obtain ⟨W10, hW10⟩ : ∃ w : World, w = W9.setCell ⟨Xb, 11, none⟩ (.slice abo nb cbo) := ⟨_, rfl⟩
        have hO10 : Oth (· = Xb) W9 W10 := by rw [hW10]; exact (Oth.refl (· = Xb) W9).set (p := ⟨Xb, 11, none⟩) rfl _
        have x10 : ∀ (q : Nat) u, (#[.int .i64 kx, .string sx, .int .i64 nx, .int .i64 ak, .int .i64 an, .string asn, .slice none 0 0, .int .i64 bk, .int .i64 bn, .string bs, .slice none 0 0, .slice abo nb cbo, .slice none 0 0, .slice none 0 0] : Array Value)[q]? = some u → W10.cell? ⟨Xb, q, none⟩ = some u := fun q u hu => by
          by_cases e : q = 11
          · subst e
            rw [hW10, World.cell?_setCell_same' _ _ _ (by rw [x9 11 _ rfl]; rfl)]
            exact hu
          · rw [hW10, World.cell?_setCell_other _ _ _ _ (by intro e2; cases e2; exact e rfl)]
            refine x9 q u ?_
            have hq : q < 14 := by have := (Array.getElem?_eq_some_iff.1 hu).1; simpa using this
            match q, hq, hu, e with
            | 0, _, hu, _ => exact hu
            | 1, _, hu, _ => exact hu
            | 2, _, hu, _ => exact hu
            | 3, _, hu, _ => exact hu
            | 4, _, hu, _ => exact hu
            | 5, _, hu, _ => exact hu
            | 6, _, hu, _ => exact hu
            | 7, _, hu, _ => exact hu
            | 8, _, hu, _ => exact hu
            | 9, _, hu, _ => exact hu
            | 10, _, hu, _ => exact hu
            | 12, _, hu, _ => exact hu
            | 13, _, hu, _ => exact hu
        obtain ⟨E, hE⟩ : ∃ E, E = W10.heap.size := ⟨_, rfl⟩
        obtain ⟨W11, hW11⟩ : ∃ w : World, w = W10.setCell ⟨g, j * 3 + 2, none⟩ (.slice (some ⟨E, 0, none⟩) 1 1) := ⟨_, rfl⟩
        have hO11 : Oth (· = g) W10 W11 := by rw [hW11]; exact (Oth.refl (· = g) W10).set (p := ⟨g, j * 3 + 2, none⟩) rfl _
        have hz11 : W11.heap.size = E := by rw [hW11, size_set, hE]
        obtain ⟨W12, hW12⟩ : ∃ w : World, w = W11.alloc (.cells #[.int .i64 kx, .string sx, .int .i64 nx, .int .i64 ak, .int .i64 an, .string asn, .slice none 0 0, .int .i64 bk, .int .i64 bn, .string bs, .slice none 0 0, .slice abo nb cbo, .slice none 0 0, .slice none 0 0] 48) := ⟨_, rfl⟩
        have hb12 : Below W11.heap.size W11 W12 := by rw [hW12]; exact (Below.refl _ _).alloc (Nat.le_refl _) _
        have x12 : ∀ (q : Nat) u, (#[.int .i64 kx, .string sx, .int .i64 nx, .int .i64 ak, .int .i64 an, .string asn, .slice none 0 0, .int .i64 bk, .int .i64 bn, .string bs, .slice none 0 0, .slice abo nb cbo, .slice none 0 0, .slice none 0 0] : Array Value)[q]? = some u → W12.cell? ⟨E, q, none⟩ = some u := fun q u hu => by
          rw [hW12, World.cell?_alloc_at _ _ _ _ hz11.symm]; exact hu
        have hO9_12 : Oth (fun b => b = Xb ∨ b = g) W9 W12 := ((hO10.imp fun _ _ e => .inl e).trans (hO11.imp fun _ _ e => .inr e)).trans (.of_below hb12)
        have s10 := hO10.size
        have s11 := hO11.size
        have s12 := hb12.size
        have hgc10 := (hO10.cell (p := ⟨g, j * 3 + 2, none⟩) (by show g < _; omega) (by show g ≠ Xb; omega)).trans gc9
        have hgf10 := (hO10.frozen (p := ⟨g, j * 3 + 2, none⟩) (by show g < _; omega) (by show g ≠ Xb; omega)).trans gf9
        have hT12 : Turned w8 W12 W7.heap.size g (j * 3 + 2) := by
          refine ⟨by have := hb89.size; have := hO9_12.size; omega, fun k h1 h2 h3 => ((hO9_12.block k (by have := hb89.size; omega) (by rintro (e | e); omega; exact h3 e))).trans (hb89.block k h2), fun i u hi hu => ?_⟩
          rw [hb12.cell (p := ⟨g, i, none⟩) (by show g < _; omega), hW11, World.cell?_setCell_other _ _ _ _ (by intro e; cases e; exact hi rfl)]
          exact ((hO10.cell (p := ⟨g, i, none⟩) (by show g < _; omega) (by show g ≠ Xb; omega)).trans (hb89.cell (p := ⟨g, i, none⟩) hgl.2)).trans hu
        have hc12 : W12.cell? ⟨g, j * 3 + 2, none⟩ = some (.slice (some ⟨E, 0, none⟩) 1 1) := by
          rw [hb12.cell (p := ⟨g, j * 3 + 2, none⟩) (by show g < _; omega), hW11]; exact World.cell?_setCell_same' _ _ _ (by rw [hgc10]; rfl)
        have hE11 : E < W12.heap.size := block_lt_of_cell (x12 0 _ rfl)
        have HQ : Hid (∀ w' : World, Below W12.heap.size W12 w' → PgIn w' (p.withBody j [wrS c f.body]) (.slice (some ⟨gw, 0, none⟩) m ocw) (.slice (some ⟨g, 0, none⟩) n ocap) vp' (setAt vb' j (.slice (some ⟨E, 0, none⟩) 1 1))) := fun w' hq => by
          have hs := hq.size
          have cc : ∀ k i, k < W12.heap.size → w'.cell? ⟨k, i, none⟩ = W12.cell? ⟨k, i, none⟩ := fun k i h2 => World.cell?_of_block (hq.block k h2)
          have hT : Turned w8 w' W7.heap.size g (j * 3 + 2) := ⟨by have := hT12.size; omega, fun k h1 h2 h3 => (hq.block k (by have := hT12.size; omega)).trans (hT12.block k h1 h2 h3), fun i u h1 h2 => (cc g i (by omega)).trans (hT12.cell i u h1 h2)⟩
          have hbody : StsIn w' f.body (.slice abo nb cbo) := by
            have e := HOw.out.fns.each j f (by rw [← Hl.out.2]; exact hjn) Hf.out.1
            have r := HOw.out.fns.rng j (by rw [← Hl.out.2]; exact hjn)
            have o := e.ord
            rw [← Hvb.out]
            exact (e.body.apart (by have := hT.size; omega) fun k k1 k2 => hT.block k (by omega) (by omega) fun e => r.2.2 (by omega)).reads
          have hxx : ∀ (q : Nat) u, (#[.int .i64 kx, .string sx, .int .i64 nx, .int .i64 ak, .int .i64 an, .string asn, .slice none 0 0, .int .i64 bk, .int .i64 bn, .string bs, .slice none 0 0, .slice abo nb cbo, .slice none 0 0, .slice none 0 0] : Array Value)[q]? = some u → w'.cell? ⟨E, q, none⟩ = some u := fun q u hu => (cc E q (by omega)).trans (x12 q u hu)
          obtain ⟨e1, e2, e3, e4, e5, e6, e7, e8, e9⟩ := Hx.out
          subst e1 e2 e3 e4 e5 e6 e7 e8 e9
          have this := HOw.out.turned Hf.out.1 hT ((cc g _ (by omega)).trans hc12) (wrS_in (c := c) (E := E) (body := f.body) (v := .slice abo nb cbo) ⟨hxx 0 _ rfl, hxx 1 _ rfl, hxx 2 _ rfl, hxx 3 _ rfl, hxx 4 _ rfl, hxx 5 _ rfl, hxx 6 _ rfl, hxx 7 _ rfl, hxx 8 _ rfl, hxx 9 _ rfl, hxx 10 _ rfl, hxx 11 _ rfl, hxx 12 _ rfl, hxx 13 _ rfl⟩ (by omega) hbody)
          rw [← Hl.out.1, ← Hl.out.2] at this
          exact this
        have hk12 : W12.cell? ⟨Xb, 0, none⟩ = some (.int .i64 kx) := (hb12.cell (p := ⟨Xb, 0, none⟩) (by show Xb < _; omega)).trans ((hO11.cell (p := ⟨Xb, 0, none⟩) (by show Xb < _; omega) (by show Xb ≠ g; omega)).trans (x10 0 _ rfl))
        have hA12 := hA9.oth2 hO9_12 (fun b hb => by rcases hb with e | e <;> omega) hk12
        have hb7_12 : Below wr.heap.size wr W12 := by
          have h1 : Below wr.heap.size wr W9 := (by rw [HW7.out.1]; exact (Below.refl _ _).alloc (Nat.le_refl _) _ : Below wr.heap.size wr W7).trans (hb79.mono (by omega))
          exact h1.trans (hO9_12.below h1.size fun b hb => by rcases hb with e | e <;> omega)
        have H12 := Lib.hid (And.intro (HO.out.trans (hb7_12.mono HO.out.size)) hA12)
        have HbW12 : Hid (Below W.heap.size W W12) := H6.out.1.trans (H12.out.1.mono H6.out.1.size)
        have HW9 := Lib.hid (And.intro hW9 hC)
        have HW10 := Lib.hid hW10
        have HW11 := Lib.hid (And.intro hW11 hE)
        have HW12 := Lib.hid hW12
        have d19 := hA9.d1
        have x911 := x9 11 _ rfl
        have d110 := (hO10.cell (p := ⟨C, 1, none⟩) q9 (by show C ≠ Xb; omega)).trans d19
        have hg9 : g < W9.heap.size := by have := hgl.2; omega
        have hg10 : g < W10.heap.size := by omega
        have hXb10 : Xb < W10.heap.size := by omega
        have hC10 : C < W10.heap.size := by omega
        have X10 := Lib.hid x10
        have s12' : g < W12.heap.size ∧ Xb < W12.heap.size ∧ C < W12.heap.size := by omega
        unfold pgV
        clear ho hvb hnb gc2 gfz hC hW9 hb8 hb89 hb79 hA9 x9 hW10 hO10 x10 hE hW11 hO11 hz11 hb12 hW12 hO9_12 s10 s11 s12 hT12 hc12 x12 hk12 hA12 hb7_12 c07 c17 f07 f17 f27 hgmid how hoc hE11 hC8
        go_upto_region 10 with (fail)
        rw [← HW9.out.2, ← HW9.out.1]
        go_upto_region 11 with (fail)
        rw [← HW10.out]
        clear d19 x911 gc9 gf9 xf9
        have i0 := X10.out 0 _ rfl
        have i1 := X10.out 1 _ rfl
        have i2 := X10.out 2 _ rfl
        have i3 := X10.out 3 _ rfl
        have i4 := X10.out 4 _ rfl
        have i5 := X10.out 5 _ rfl
        have i6 := X10.out 6 _ rfl
        have i7 := X10.out 7 _ rfl
        have i8 := X10.out 8 _ rfl
        have i9 := X10.out 9 _ rfl
        have i10 := X10.out 10 _ rfl
        have i11 := X10.out 11 _ rfl
        have i12 := X10.out 12 _ rfl
        have i13 := X10.out 13 _ rfl
        simp only [List.getElem_toArray, List.getElem_cons_zero, List.getElem_cons_succ] at i0 i1 i2 i3 i4 i5 i6 i7 i8 i9 i10 i11 i12 i13
        go_upto_region 12 with (fail)
        rw [← HW11.out.2, ← HW11.out.1, ← HW12.out]
        clear i0 i1 i2 i3 i4 i5 i6 i7 i8 i9 i10 i11 i12 i13 d110 hgc10 hgf10
        have d0 := H12.out.2.d0
        have d1 := H12.out.2.d1
        go_wp2_with fail
        refine (ncheck_any _ _ _ _ _ W12 (HQ.out W12 (Below.refl _ _))).mono ?_
        rintro e w13 ⟨rfl, hb13⟩
        obtain ⟨u2, hu2⟩ : ∃ u, u = (p.withBody j [wrS c f.body]).nfault := ⟨_, rfl⟩
        rw [← hu2]
        have Hu2 := Lib.hid hu2
        obtain ⟨xa, xb, xc⟩ := u2
        unfold fltV
        have H13 := Lib.hid (And.intro (H12.out.1.trans (hb13.mono H12.out.1.size)) (And.intro (H12.out.2.later hb13) hb13))
        clear hu2 hb13 d0 d1
        by_cases hxa : xa = 0
        · subst hxa
          --<C
          have hq0 : (p.withBody j [wrS c f.body]).nfault.1 = 0 := by rw [← Hu2.out]
          have hqf : (p.withBody j [wrS c f.body]).fault.1 = 0 := by
            by_cases e : (p.withBody j [wrS c f.body]).fault.1 = 0
            · exact e
            · rw [Pg.nfault_bad e] at hq0; exact absurd hq0 e
          have Hst := Lib.hid (wrap_straight (c := c) Hf.out.1 Hf.out.2.1 hqf Hf.out.2.2 hq0 true)
          obtain ⟨bmp, hbmp⟩ : ∃ b, b = decide (ea ≠ 0 ∧ eb = (j : Int) ∧ 0 < ec) := ⟨_, rfl⟩
          obtain ⟨ec2, hec2⟩ : ∃ e : Int, e = if bmp = true then ec + 1 else ec := ⟨_, rfl⟩
          have Hrf : Hid ((p.withBody j [wrS c f.body]).rfault = (ea, eb, ec2)) := by
            show _ = _
            rw [wrap_rfault Hf.out.1 Hf.out.2.1 hqf Hf.out.2.2 hq0, ← Ht.out, hec2, hbmp]
            unfold bumpF
            by_cases hb : ea ≠ 0 ∧ eb = (j : Int) ∧ 0 < ec
            · rw [if_pos hb, decide_eq_true hb]; rfl
            · rw [if_neg hb, decide_eq_false hb]; rfl
          have Hec := Lib.hid (And.intro hbmp hec2)
          clear hq0 hqf hec2
          have a13 := H13.out.2.1
          have f0 := a13.f0
          have f1 := a13.f1
          have f2 := a13.f2
          obtain ⟨Gb, hGb⟩ : ∃ b, b = w13.heap.size := ⟨_, rfl⟩
          obtain ⟨W14, hW14⟩ : ∃ W, W = w13.alloc (.cells #[.int .i64 ea, .int .i64 eb, .int .i64 ec] 29) := ⟨_, rfl⟩
          have hb14 : Below w13.heap.size w13 W14 := by rw [hW14]; exact (Below.refl _ _).alloc (Nat.le_refl _) _
          have g0 : W14.cell? ⟨Gb, 0, none⟩ = some (.int .i64 ea) := by rw [hW14, hGb]; exact World.cell?_alloc_at _ _ _ _ rfl
          have g1 : W14.cell? ⟨Gb, 1, none⟩ = some (.int .i64 eb) := by rw [hW14, hGb]; exact World.cell?_alloc_at _ _ _ _ rfl
          have g2 : W14.cell? ⟨Gb, 2, none⟩ = some (.int .i64 ec) := by rw [hW14, hGb]; exact World.cell?_alloc_at _ _ _ _ rfl
          have gf : W14.frozen? ⟨Gb, 2, none⟩ = false := by rw [hW14, hGb]; exact World.frozen?_alloc_at _ _ _ _ rfl
          have hA14 := a13.later hb14
          have hBG : B ≠ Gb ∧ C ≠ Gb ∧ D ≠ Gb ∧ Xb ≠ Gb := by
            have h1 : B < w13.heap.size := block_lt_of_cell a13.c0
            have h2 : C < w13.heap.size := block_lt_of_cell a13.d0
            have h3 : D < w13.heap.size := block_lt_of_cell a13.f0
            have h4 : Xb < w13.heap.size := block_lt_of_cell a13.k0
            omega
          have h12_14 := H13.out.2.2.trans (hb14.mono H13.out.2.2.size)
          have hGlow : W12.heap.size ≤ Gb := by rw [hGb]; exact H13.out.2.2.size
          have H14 := Lib.hid (And.intro h12_14 (And.intro hA14 (And.intro g0 (And.intro g1 g2))))
          have HW14 := Lib.hid (And.intro hW14 hGb)
          clear a13 hW14 hGb hb14 hA14 h12_14
          go_upto_region 14 with (fail)
          rw [← HW14.out.1, ← HW14.out.2]
          clear f0 f1 f2
          go_cut [85] from 72 to 85 (fun b wc => b = .bool bmp ∧ wc = W14)
          case first =>
            by_cases e1 : ea = 0
            · have b1 : (ea != 0) = false := by simpa using e1
              have Hbm : Hid (bmp = false) := by show _ = _; rw [Hec.out.1]; exact decide_eq_false fun h => h.1 e1
              clear e1 hbmp
              go_wp2_with fail
              go_meet
              case rel => exact ⟨by rw [Hbm.out], rfl⟩
            · have b1 : (ea != 0) = true := by simpa using e1
              by_cases e2 : eb = (j : Int)
              · have b2 : (eb == (j : Int)) = true := by simpa using e2
                by_cases e3 : 0 < ec
                · have b3 : decide (0 < ec) = true := decide_eq_true e3
                  have Hbm : Hid (bmp = true) := by show _ = _; rw [Hec.out.1]; exact decide_eq_true ⟨e1, e2, e3⟩
                  clear e1 e2 e3 hbmp
                  go_wp2_with fail
                  go_meet
                  case rel => exact ⟨by rw [Hbm.out], rfl⟩
                · have b3 : decide (0 < ec) = false := decide_eq_false e3
                  have Hbm : Hid (bmp = false) := by show _ = _; rw [Hec.out.1]; exact decide_eq_false fun h => e3 h.2.2
                  clear e1 e2 e3 hbmp
                  go_wp2_with fail
                  go_meet
                  case rel => exact ⟨by rw [Hbm.out], rfl⟩
              · have b2 : (eb == (j : Int)) = false := by simpa using e2
                have Hbm : Hid (bmp = false) := by show _ = _; rw [Hec.out.1]; exact decide_eq_false fun h => e2 h.2.1
                clear e1 e2 hbmp
                go_wp2_with fail
                go_meet
                case rel => exact ⟨by rw [Hbm.out], rfl⟩
          case rest =>
            obtain ⟨rfl, hcw⟩ := hcut
            rw [hcw]
            clear hcw hbmp
            go_upto_if 85 with (fail)
            go_cut [] (fun wc => Oth (· = Gb) W14 wc ∧ wc.cell? ⟨Gb, 0, none⟩ = some (.int .i64 ea) ∧ wc.cell? ⟨Gb, 1, none⟩ = some (.int .i64 eb) ∧ wc.cell? ⟨Gb, 2, none⟩ = some (.int .i64 ec2))
            case first =>
              cases bmp
              · have Hz : Hid (ec2 = ec) := by show _ = _; rw [Hec.out.2]; rfl
                go_wp2_with fail
                go_meet
                case rel => exact ⟨Oth.refl _ _, H14.out.2.2.1, H14.out.2.2.2.1, by rw [Hz.out]; exact H14.out.2.2.2.2⟩
              · have Hz : Hid (ec2 = ec + 1) := by show _ = _; rw [Hec.out.2]; rfl
                go_wp2_with fail
                go_meet
                case rel =>
                  have hO : Oth (· = Gb) W14 (W14.setCell ⟨Gb, 2, none⟩ (.int .i64 (ec + 1))) := (Oth.refl (· = Gb) W14).set (p := ⟨Gb, 2, none⟩) rfl _
                  refine ⟨hO, ?_, ?_, ?_⟩
                  · rw [World.cell?_setCell_other _ _ _ _ (by simp)]; exact H14.out.2.2.1
                  · rw [World.cell?_setCell_other _ _ _ _ (by simp)]; exact H14.out.2.2.2.1
                  · rw [Hz.out]; exact World.cell?_setCell_same' _ _ _ (by rw [H14.out.2.2.2.2]; rfl)
            case rest =>
              obtain ⟨hO15, k0, k1, k2⟩ := hcut
              obtain ⟨W15, hW15⟩ : ∃ W : World, W = wc := ⟨_, rfl⟩
              rw [← hW15]
              rw [← hW15] at hO15 k0 k1 k2
              have hA15 := H14.out.2.1.oth hO15 (fun b (e : b = Gb) => by subst e; exact ⟨fun e => hBG.1 e.symm, fun e => hBG.2.1 e.symm, fun e => hBG.2.2.1 e.symm, fun e => hBG.2.2.2 e.symm⟩)
              have h12_15 : Below W12.heap.size W12 W15 := H14.out.1.trans (hO15.below H14.out.1.size fun b (e : b = Gb) => by omega)
              have H15 := Lib.hid (And.intro hA15 (And.intro h12_15 (And.intro k0 (And.intro k1 k2))))
              clear hW15 hO15 k0 k1 k2 hA15 h12_15 g0 g1 g2 gf hBG
              go_upto_region 16 with (fail)
              obtain ⟨B0, hBe⟩ : ∃ B0, B0 = W15.heap.size := ⟨_, rfl⟩
              refine wp_region_held (S := Below B0 W15.drew) rfl ?_
              change wpAnyH _ _ _ _ (Below B0 W15.drew) _ _ _ W15.drew
              obtain ⟨W16, hW16⟩ : ∃ W0, W0 = W15.drew := ⟨_, rfl⟩
              rw [← hW16]
              have hb16 : Below W15.heap.size W15 W16 := by rw [hW16]; exact (Below.refl _ _).drew
              have hB16 : B0 ≤ W16.heap.size := by rw [hBe]; exact hb16.size
              have Hw16 : Hid (∀ W', Below B0 W16 W' → Below W15.heap.size W15 W') := fun W hb => hb16.trans (by rw [hBe] at hb; exact hb)
              have Hfc16 : Hid (∀ W', Below B0 W16 W' → (W'.cell? ⟨C, 0, none⟩ = some (.slice (some ⟨gw, 0, none⟩) m ocw) ∧ W'.cell? ⟨C, 1, none⟩ = some (.slice (some ⟨g, 0, none⟩) n ocap)) ∧ W'.cell? ⟨Gb, 0, none⟩ = some (.int .i64 ea) ∧ W'.cell? ⟨Gb, 1, none⟩ = some (.int .i64 eb) ∧ W'.cell? ⟨Gb, 2, none⟩ = some (.int .i64 ec2)) := fun W hb => by
                have h := Hw16.out W hb
                have a := H15.out.1.later h
                obtain ⟨k0, k1, k2⟩ := H15.out.2.2
                exact ⟨⟨a.d0, a.d1⟩, (h.cell (p := ⟨Gb, 0, none⟩) (block_lt_of_cell k0)).trans k0, (h.cell (p := ⟨Gb, 1, none⟩) (block_lt_of_cell k1)).trans k1, (h.cell (p := ⟨Gb, 2, none⟩) (block_lt_of_cell k2)).trans k2⟩
              have Hb16 : Hid (Below B0 W16 W16) := Below.refl _ _
              clear hb16 hW16 hBe
              refine wpAnyH_take (i := 0) (by simp only [List.getElem?_toArray, List.getElem?_cons_zero]; rfl) (by kernel_rfl) (by kernel_rfl) (by kernel_rfl) (by intro _ _ _ h; exact h) (Or.inl ⟨by rfl, fun w hw => by (obtain ⟨⟨d0, d1⟩, k0, k1, k2⟩ := Hfc16.out w hw; go_simp; try rfl)⟩) Hb16.out ?_
              go_frame
              refine wpAnyH_take (i := 2) (by simp only [List.getElem?_toArray, List.getElem?_cons_succ, List.getElem?_cons_zero]; rfl) (by kernel_rfl) (by kernel_rfl) (by kernel_rfl) (by intro _ _ _ h; exact h) (Or.inl ⟨by rfl, fun w hw => by (obtain ⟨⟨d0, d1⟩, k0, k1, k2⟩ := Hfc16.out w hw; go_simp; try rfl)⟩) Hb16.out ?_
              go_frame
              refine wpAnyH_ready (rs := [1]) (by kernel_rfl) (by simp) ?_
              refine AllReadyH.cons rfl (fun K hK => ?_) AllReadyH.nil
              go_simp
              refine (rgCheck_any (p.withBody j [wrS c f.body]) _ _ _ _ W16 (HQ.out _ (H15.out.2.1.trans ((Hw16.out _ Hb16.out).mono H15.out.2.1.size))) (withBody_rng Hrg.out Hf.out.1)).mono ?_
              rintro e w17 ⟨rfl, hb17⟩
              rw [Hrf.out]
              unfold fltV
              have Hb17 : Hid (Below B0 W16 w17) := hb17.mono hB16
              clear hb17
              refine hK.out _ _ Hb17.out (fun _ => ?_)
              clear hK K
              refine wpAnyH_take (i := 3) (by simp only [List.getElem?_toArray, List.getElem?_cons_succ, List.getElem?_cons_zero]; rfl) (by kernel_rfl) (by kernel_rfl) (by kernel_rfl) (by intro _ _ _ h; exact h) (Or.inl ⟨by rfl, fun w hw => by (skip; go_simp; try rfl)⟩) Hb17.out ?_
              go_frame
              refine wpAnyH_done (by kernel_rfl) ?_ _
              have h1517 := Hw16.out _ Hb17.out
              have H17 := Lib.hid (And.intro (H15.out.1.later h1517) (H15.out.2.1.trans (h1517.mono H15.out.2.1.size)))
              have d0 := H17.out.1.d0
              have d1 := H17.out.1.d1
              clear h1517 Hfc16 Hw16 Hb16 Hb17 hB16
              go_wp2_with fail
              refine (rgStraight_any (p.withBody j [wrS c f.body]) _ _ _ _ (j : Int) true w17 (HQ.out _ H17.out.2) (withBody_rng Hrg.out Hf.out.1) Hk.out).mono ?_
              rintro e w18 ⟨rfl, hb18⟩
              obtain ⟨z, hz⟩ : ∃ z, z = (p.withBody j [wrS c f.body]).straight (j : Int) true := ⟨_, rfl⟩
              rw [← hz] at Hst
              rw [← hz]
              have a18 := H17.out.1.later hb18
              have H18 := Lib.hid (And.intro a18 (H17.out.2.trans (hb18.mono H17.out.2.size)))
              have HbW18 : Hid (Below W.heap.size W w18) := HbW12.out.trans (H18.out.2.mono HbW12.out.size)
              have k0 := a18.k0
              have c0 := a18.c0
              have c1 := a18.c1
              have hfin : Hid (Below W6.heap.size W6 w18) := H12.out.1.trans (H18.out.2.mono H12.out.1.size)
              have hkx := Hx.out.1
              have hsb := HP.out.funcs.body j f Hf.out.1
              have hret : Rets W f.body (vb j) := returns_any W f.body (vb j) hsb
              obtain ⟨pb, poff, hpa, hpb, hPj⟩ := Hrow.out.at (i := j) (by rw [← Hl.out.2]; exact hjn)
              have hfc := (hPj f Hf.out.1).later HbW18.out hpb
              obtain ⟨abp, cbp, hvbj, -⟩ := hsb.form
              obtain ⟨nbp, hnbp⟩ : ∃ n, n = f.body.length := ⟨_, rfl⟩
              rw [hvbj, ← hnbp] at hret hfc
              have hp2 := hfc.c2
              subst hpa
              have Hret := Lib.hid hret
              clear hz hb18 d0 d1 a18 hsb hret hPj hpb hfc hvbj hnbp
              cases c
              · have hz0 : z = false := Hst.out.1 (by first | trivial | rfl)
                have hk5 : kx = 5 := hkx
                subst hz0
                subst hk5
                clear hkx hp2
                go_wp2_with fail
                go_roundg (2 - (i + 1))
                case measure => have := Hgg.out; omega
                case rel => exact ⟨i + 1, rfl, by go_num, by omega, hfin.out⟩
              · have hk7 : kx = 7 := hkx
                subst hk7
                clear hkx
                cases z
                · go_wp2_with fail
                  refine (Hret.out w18 HbW18.out).mono ?_
                  rintro e w19 ⟨rfl, hb19⟩
                  obtain ⟨y, hy⟩ : ∃ y, y = St.retsB f.body := ⟨_, rfl⟩
                  rw [← hy]
                  have Hy := Lib.hid hy
                  have c0' := (hb19.cell (p := ⟨B, 0, none⟩) (block_lt_of_cell c0)).trans c0
                  have c1' := (hb19.cell (p := ⟨B, 1, none⟩) (block_lt_of_cell c1)).trans c1
                  have H19 := Lib.hid (And.intro (HbW18.out.trans (hb19.mono HbW18.out.size)) (hfin.out.trans (hb19.mono hfin.out.size)))
                  clear hy hb19 c0 c1 k0 hp2 Hret
                  cases y
                  · go_wp2_with fail
                    refine (rgStraight_any p _ _ vp vb (j : Int) true w19 (HP.out.later H19.out.1) Hrg.out Hk.out).mono ?_
                    rintro e w20 ⟨rfl, hb20⟩
                    rw [← Hst.out.2.2 (by first | trivial | rfl) Hy.out.symm]
                    have H20 := Lib.hid (H19.out.2.trans (hb20.mono H19.out.2.size))
                    clear hb20 c0' c1'
                    go_wp2_with fail
                    go_roundg (2 - (i + 1))
                    case measure => have := Hgg.out; omega
                    case rel => exact ⟨i + 1, rfl, by go_num, by omega, H20.out⟩
                  · clear c0' c1'
                    go_wp2_with fail
                    go_roundg (2 - (i + 1))
                    case measure => have := Hgg.out; omega
                    case rel => exact ⟨i + 1, rfl, by go_num, by omega, H19.out.2⟩
                · have hps : p.straight (j : Int) true = true := Hst.out.2.1 (by first | trivial | rfl)
                  have Hps := Lib.hid hps
                  clear hps
                  go_wp2_with fail
                  refine (rgStraight_any p _ _ vp vb (j : Int) true w18 (HP.out.later HbW18.out) Hrg.out Hk.out).mono ?_
                  rintro e w18b ⟨rfl, hb18b⟩
                  rw [Hps.out]
                  have c0b := (hb18b.cell (p := ⟨B, 0, none⟩) (block_lt_of_cell c0)).trans c0
                  have c1b := (hb18b.cell (p := ⟨B, 1, none⟩) (block_lt_of_cell c1)).trans c1
                  have k0b := (hb18b.cell (p := ⟨Xb, 0, none⟩) (block_lt_of_cell k0)).trans k0
                  have hp2b := (hb18b.cell (p := ⟨pb, poff + j * 3 + 2, none⟩) (block_lt_of_cell hp2)).trans hp2
                  have hbW18b := HbW18.out.trans (hb18b.mono HbW18.out.size)
                  have H18b := Lib.hid (And.intro hbW18b (hfin.out.trans (hb18b.mono hfin.out.size)))
                  clear hb18b c0 c1 k0 hp2 hbW18b
                  go_wp2_with fail
                  refine (Hret.out w18b H18b.out.1).mono ?_
                  rintro e w19 ⟨rfl, hb19⟩
                  obtain ⟨y, hy⟩ : ∃ y, y = St.retsB f.body := ⟨_, rfl⟩
                  rw [← hy]
                  have Hy := Lib.hid hy
                  have c0' := (hb19.cell (p := ⟨B, 0, none⟩) (block_lt_of_cell c0b)).trans c0b
                  have c1' := (hb19.cell (p := ⟨B, 1, none⟩) (block_lt_of_cell c1b)).trans c1b
                  have H19 := Lib.hid (And.intro (H18b.out.1.trans (hb19.mono H18b.out.1.size)) (H18b.out.2.trans (hb19.mono H18b.out.2.size)))
                  clear hy hb19 c0b c1b k0b hp2b Hret
                  cases y
                  · go_wp2_with fail
                    refine (rgStraight_any p _ _ vp vb (j : Int) true w19 (HP.out.later H19.out.1) Hrg.out Hk.out).mono ?_
                    rintro e w20 ⟨rfl, hb20⟩
                    rw [Hps.out]
                    have H20 := Lib.hid (H19.out.2.trans (hb20.mono H19.out.2.size))
                    clear hb20 c0' c1'
                    go_wp2_with fail
                    go_roundg (2 - (i + 1))
                    case measure => have := Hgg.out; omega
                    case rel => exact ⟨i + 1, rfl, by go_num, by omega, H20.out⟩
                  · clear c0' c1'
                    go_wp2_with fail
                    go_roundg (2 - (i + 1))
                    case measure => have := Hgg.out; omega
                    case rel => exact ⟨i + 1, rfl, by go_num, by omega, H19.out.2⟩
          --C>
        · have qx : (xa != 0) = true := by simp [hxa]
          clear hxa
          go_wp2_with fail
          go_roundg (2 - (i + 1))
          case measure => have := Hgg.out; omega
          case rel => exact ⟨i + 1, rfl, by go_num, by omega, H13.out.1⟩
      · obtain rfl : i = 2 := by omega
        clear hO hin
        go_wp2_with fail
        go_ret
        exact ⟨by rfl, H6.out.1.trans (HO.out.mono H6.out.1.size)⟩
    --A>
  · --<B
    have Hcase : Hid (ga ≠ 0 → ea = ga ∧ eb = gb ∧ ec = gc) := fun hg => by
      have h := Pg.rfault_bad (p := p) (by rw [← Hu.out]; exact hg)
      rw [← Ht.out, ← Hu.out] at h
      have h1 := congrArg (fun t => t.1) h
      have h2 := congrArg (fun t => t.2.1) h
      have h3 := congrArg (fun t => t.2.2) h
      exact ⟨h1, h2, h3⟩
    have Hnot : Hid (ga = 0 → k < 0 ∨ (n : Int) ≤ k) := fun hg => by
      by_cases h1 : k < 0
      · exact .inl h1
      · exact .inr (by have : ¬ (0 ≤ k ∧ k < n) := fun h => hin ⟨hg, h.1, h.2⟩
                       omega)
    clear hin
    by_cases hg : ga = 0
    · subst hg
      have hkk : (decide (k < 0) || decide ((n : Int) ≤ k)) = true := by
        rcases Hnot.out rfl with h | h
        · rw [decide_eq_true h]; rfl
        · rw [decide_eq_true h]; simp
      by_cases hk0 : k < 0
      · have hq : decide (k < 0) = true := decide_eq_true hk0
        clear hk0 hkk
        go_upto_region 5 with (fail)
        obtain ⟨B0x, hBe⟩ : ∃ B0, B0 = w5.heap.size := ⟨_, rfl⟩
        refine wp_region_held (S := Below B0x w5.drew) rfl ?_
        change wpAnyH _ _ _ _ (Below B0x w5.drew) _ _ _ w5.drew
        obtain ⟨W10, hW10⟩ : ∃ W0, W0 = w5.drew := ⟨_, rfl⟩
        rw [← hW10]
        have hb10 : Below w5.heap.size w5 W10 := by rw [hW10]; exact (Below.refl _ _).drew
        have hB10 : B0x ≤ W10.heap.size := by rw [hBe]; exact hb10.size
        have Hfc10 : Hid (∀ W, Below B0x W10 W → W.cell? ⟨B, 0, none⟩ = some (.slice aw m cw) ∧ W.cell? ⟨B, 1, none⟩ = some (.slice a n cap) ∧ W.cell? ⟨D, 0, none⟩ = some (.int .i64 ea) ∧ W.cell? ⟨D, 1, none⟩ = some (.int .i64 eb) ∧ W.cell? ⟨D, 2, none⟩ = some (.int .i64 ec)) := fun W hb => by
          have hb2 : Below w5.heap.size w5 W := hb10.trans (by rw [hBe] at hb; exact hb)
          exact ⟨(hb2.cell (p := ⟨B, 0, none⟩) q5).trans c0, (hb2.cell (p := ⟨B, 1, none⟩) q5).trans c1, (hb2.cell (p := ⟨D, 0, none⟩) q5D).trans f0, (hb2.cell (p := ⟨D, 1, none⟩) q5D).trans f1, (hb2.cell (p := ⟨D, 2, none⟩) q5D).trans f2⟩
        have Hw10 : Hid (∀ W', Below B0x W10 W' → Below W.heap.size W W') := fun W hb => H5.out.1.trans ((hb10.trans (by rw [hBe] at hb; exact hb)).mono H5.out.1.size)
        have Hb10 : Hid (Below B0x W10 W10) := Below.refl _ _
        clear hb10 hW10 hBe c0 c1 f0 f1 f2
        refine wpAnyH_take (i := 0) (by simp only [List.getElem?_toArray, List.getElem?_cons_zero]; rfl) (by kernel_rfl) (by kernel_rfl) (by kernel_rfl) (by intro _ _ _ h; exact h) (Or.inl ⟨by rfl, fun w hw => by (obtain ⟨c0, c1, f0, f1, f2⟩ := Hfc10.out w hw; go_simp; try rfl)⟩) Hb10.out ?_
        go_frame
        refine wpAnyH_ready (rs := [1]) (by kernel_rfl) (by simp) ?_
        refine AllReadyH.cons rfl (fun K hK => ?_) AllReadyH.nil
        go_simp
        refine (ncheck_any p (.slice aw m cw) (.slice a n cap) vp vb W10 (HP.out.later (Hw10.out _ Hb10.out))).mono ?_
        rintro e w11 ⟨rfl, hb11⟩
        rw [← Hu.out]
        unfold fltV
        have Hb11 : Hid (Below B0x W10 w11) := hb11.mono hB10
        clear hb11
        refine hK.out _ _ Hb11.out (fun _ => ?_)
        clear hK K
        refine wpAnyH_take (i := 2) (by simp only [List.getElem?_toArray, List.getElem?_cons_succ, List.getElem?_cons_zero]; rfl) (by kernel_rfl) (by kernel_rfl) (by kernel_rfl) (by intro _ _ _ h; exact h) (Or.inl ⟨by rfl, fun w hw => by (skip; go_simp; try rfl)⟩) Hb11.out ?_
        refine wpAnyH_take (i := 3) (by simp only [List.getElem?_toArray, List.getElem?_cons_succ, List.getElem?_cons_zero]; rfl) (by kernel_rfl) (by kernel_rfl) (by kernel_rfl) (by intro _ _ _ h; exact h) (Or.inl ⟨by rfl, fun w hw => by (skip; go_simp; try rfl)⟩) Hb11.out ?_
        go_frame
        refine wpAnyH_take (i := 4) (by simp only [List.getElem?_toArray, List.getElem?_cons_succ, List.getElem?_cons_zero]; rfl) (by kernel_rfl) (by kernel_rfl) (by kernel_rfl) (by intro _ _ _ h; exact h) (Or.inl ⟨by rfl, fun w hw => by (skip; go_simp; try rfl)⟩) Hb11.out ?_
        go_frame
        refine wpAnyH_take (i := 5) (by simp only [List.getElem?_toArray, List.getElem?_cons_succ, List.getElem?_cons_zero]; rfl) (by kernel_rfl) (by kernel_rfl) (by kernel_rfl) (by intro _ _ _ h; exact h) (Or.inr ⟨by go_simp, rfl⟩) Hb11.out ?_
        try go_frame
        refine wpAnyH_take (i := 6) (by simp only [List.getElem?_toArray, List.getElem?_cons_succ, List.getElem?_cons_zero]; rfl) (by kernel_rfl) (by kernel_rfl) (by kernel_rfl) (by intro _ _ _ h; exact h) (Or.inr ⟨by go_simp, rfl⟩) Hb11.out ?_
        refine wpAnyH_take (i := 7) (by simp only [List.getElem?_toArray, List.getElem?_cons_succ, List.getElem?_cons_zero]; rfl) (by kernel_rfl) (by kernel_rfl) (by kernel_rfl) (by intro _ _ _ h; exact h) (Or.inr ⟨by go_simp, rfl⟩) Hb11.out ?_
        try go_frame
        refine wpAnyH_take (i := 8) (by simp only [List.getElem?_toArray, List.getElem?_cons_succ, List.getElem?_cons_zero]; rfl) (by kernel_rfl) (by kernel_rfl) (by kernel_rfl) (by intro _ _ _ h; exact h) (Or.inr ⟨by go_simp, rfl⟩) Hb11.out ?_
        try go_frame
        refine wpAnyH_take (i := 9) (by simp only [List.getElem?_toArray, List.getElem?_cons_succ, List.getElem?_cons_zero]; rfl) (by kernel_rfl) (by kernel_rfl) (by kernel_rfl) (by intro _ _ _ h; exact h) (Or.inl ⟨by rfl, fun w hw => by (skip; go_simp; try rfl)⟩) Hb11.out ?_
        go_frame
        refine wpAnyH_take (i := 10) (by simp only [List.getElem?_toArray, List.getElem?_cons_succ, List.getElem?_cons_zero]; rfl) (by kernel_rfl) (by kernel_rfl) (by kernel_rfl) (by intro _ _ _ h; exact h) (Or.inl ⟨by rfl, fun w hw => by (skip; go_simp; try rfl)⟩) Hb11.out ?_
        go_frame
        try go_frame
        refine wpAnyH_done (by kernel_rfl) ?_ _
        go_wp2_with fail
        go_ret
        exact ⟨by rfl, Hw10.out _ Hb11.out⟩
      · have hq : decide (k < 0) = false := decide_eq_false hk0
        have hkn : (n : Int) ≤ k := by rcases Hnot.out rfl with h | h; exact absurd h hk0; exact h
        have hq2 : decide ((n : Int) ≤ k) = true := decide_eq_true hkn
        clear hk0 hkk hkn
        go_upto_region 5 with (fail)
        obtain ⟨B0x, hBe⟩ : ∃ B0, B0 = w5.heap.size := ⟨_, rfl⟩
        refine wp_region_held (S := Below B0x w5.drew) rfl ?_
        change wpAnyH _ _ _ _ (Below B0x w5.drew) _ _ _ w5.drew
        obtain ⟨W10, hW10⟩ : ∃ W0, W0 = w5.drew := ⟨_, rfl⟩
        rw [← hW10]
        have hb10 : Below w5.heap.size w5 W10 := by rw [hW10]; exact (Below.refl _ _).drew
        have hB10 : B0x ≤ W10.heap.size := by rw [hBe]; exact hb10.size
        have Hfc10 : Hid (∀ W, Below B0x W10 W → W.cell? ⟨B, 0, none⟩ = some (.slice aw m cw) ∧ W.cell? ⟨B, 1, none⟩ = some (.slice a n cap) ∧ W.cell? ⟨D, 0, none⟩ = some (.int .i64 ea) ∧ W.cell? ⟨D, 1, none⟩ = some (.int .i64 eb) ∧ W.cell? ⟨D, 2, none⟩ = some (.int .i64 ec)) := fun W hb => by
          have hb2 : Below w5.heap.size w5 W := hb10.trans (by rw [hBe] at hb; exact hb)
          exact ⟨(hb2.cell (p := ⟨B, 0, none⟩) q5).trans c0, (hb2.cell (p := ⟨B, 1, none⟩) q5).trans c1, (hb2.cell (p := ⟨D, 0, none⟩) q5D).trans f0, (hb2.cell (p := ⟨D, 1, none⟩) q5D).trans f1, (hb2.cell (p := ⟨D, 2, none⟩) q5D).trans f2⟩
        have Hw10 : Hid (∀ W', Below B0x W10 W' → Below W.heap.size W W') := fun W hb => H5.out.1.trans ((hb10.trans (by rw [hBe] at hb; exact hb)).mono H5.out.1.size)
        have Hb10 : Hid (Below B0x W10 W10) := Below.refl _ _
        clear hb10 hW10 hBe c0 c1 f0 f1 f2
        refine wpAnyH_take (i := 0) (by simp only [List.getElem?_toArray, List.getElem?_cons_zero]; rfl) (by kernel_rfl) (by kernel_rfl) (by kernel_rfl) (by intro _ _ _ h; exact h) (Or.inl ⟨by rfl, fun w hw => by (obtain ⟨c0, c1, f0, f1, f2⟩ := Hfc10.out w hw; go_simp; try rfl)⟩) Hb10.out ?_
        go_frame
        refine wpAnyH_ready (rs := [1]) (by kernel_rfl) (by simp) ?_
        refine AllReadyH.cons rfl (fun K hK => ?_) AllReadyH.nil
        go_simp
        refine (ncheck_any p (.slice aw m cw) (.slice a n cap) vp vb W10 (HP.out.later (Hw10.out _ Hb10.out))).mono ?_
        rintro e w11 ⟨rfl, hb11⟩
        rw [← Hu.out]
        unfold fltV
        have Hb11 : Hid (Below B0x W10 w11) := hb11.mono hB10
        clear hb11
        refine hK.out _ _ Hb11.out (fun _ => ?_)
        clear hK K
        refine wpAnyH_take (i := 2) (by simp only [List.getElem?_toArray, List.getElem?_cons_succ, List.getElem?_cons_zero]; rfl) (by kernel_rfl) (by kernel_rfl) (by kernel_rfl) (by intro _ _ _ h; exact h) (Or.inl ⟨by rfl, fun w hw => by (skip; go_simp; try rfl)⟩) Hb11.out ?_
        refine wpAnyH_take (i := 3) (by simp only [List.getElem?_toArray, List.getElem?_cons_succ, List.getElem?_cons_zero]; rfl) (by kernel_rfl) (by kernel_rfl) (by kernel_rfl) (by intro _ _ _ h; exact h) (Or.inl ⟨by rfl, fun w hw => by (skip; go_simp; try rfl)⟩) Hb11.out ?_
        go_frame
        refine wpAnyH_take (i := 4) (by simp only [List.getElem?_toArray, List.getElem?_cons_succ, List.getElem?_cons_zero]; rfl) (by kernel_rfl) (by kernel_rfl) (by kernel_rfl) (by intro _ _ _ h; exact h) (Or.inl ⟨by rfl, fun w hw => by (skip; go_simp; try rfl)⟩) Hb11.out ?_
        go_frame
        refine wpAnyH_take (i := 5) (by simp only [List.getElem?_toArray, List.getElem?_cons_succ, List.getElem?_cons_zero]; rfl) (by kernel_rfl) (by kernel_rfl) (by kernel_rfl) (by intro _ _ _ h; exact h) (Or.inr ⟨by go_simp, rfl⟩) Hb11.out ?_
        try go_frame
        refine wpAnyH_take (i := 6) (by simp only [List.getElem?_toArray, List.getElem?_cons_succ, List.getElem?_cons_zero]; rfl) (by kernel_rfl) (by kernel_rfl) (by kernel_rfl) (by intro _ _ _ h; exact h) (Or.inr ⟨by go_simp, rfl⟩) Hb11.out ?_
        refine wpAnyH_take (i := 7) (by simp only [List.getElem?_toArray, List.getElem?_cons_succ, List.getElem?_cons_zero]; rfl) (by kernel_rfl) (by kernel_rfl) (by kernel_rfl) (by intro _ _ _ h; exact h) (Or.inr ⟨by go_simp, rfl⟩) Hb11.out ?_
        try go_frame
        refine wpAnyH_take (i := 8) (by simp only [List.getElem?_toArray, List.getElem?_cons_succ, List.getElem?_cons_zero]; rfl) (by kernel_rfl) (by kernel_rfl) (by kernel_rfl) (by intro _ _ _ h; exact h) (Or.inr ⟨by go_simp, rfl⟩) Hb11.out ?_
        try go_frame
        refine wpAnyH_take (i := 9) (by simp only [List.getElem?_toArray, List.getElem?_cons_succ, List.getElem?_cons_zero]; rfl) (by kernel_rfl) (by kernel_rfl) (by kernel_rfl) (by intro _ _ _ h; exact h) (Or.inl ⟨by rfl, fun w hw => by (skip; go_simp; try rfl)⟩) Hb11.out ?_
        go_frame
        refine wpAnyH_take (i := 10) (by simp only [List.getElem?_toArray, List.getElem?_cons_succ, List.getElem?_cons_zero]; rfl) (by kernel_rfl) (by kernel_rfl) (by kernel_rfl) (by intro _ _ _ h; exact h) (Or.inl ⟨by rfl, fun w hw => by (skip; go_simp; try rfl)⟩) Hb11.out ?_
        go_frame
        try go_frame
        refine wpAnyH_done (by kernel_rfl) ?_ _
        go_wp2_with fail
        go_ret
        exact ⟨by rfl, Hw10.out _ Hb11.out⟩
    · have hq : (ga != 0) = true := by simp [hg]
      have hqe : (ga == 0) = false := by simp [hg]
      obtain ⟨e1, e2, e3⟩ := Hcase.out hg
      clear Hcase Hnot hg
      subst e1 e2 e3
      go_upto_region 5 with (fail)
      obtain ⟨B0x, hBe⟩ : ∃ B0, B0 = w5.heap.size := ⟨_, rfl⟩
      refine wp_region_held (S := Below B0x w5.drew) rfl ?_
      change wpAnyH _ _ _ _ (Below B0x w5.drew) _ _ _ w5.drew
      obtain ⟨W10, hW10⟩ : ∃ W0, W0 = w5.drew := ⟨_, rfl⟩
      rw [← hW10]
      have hb10 : Below w5.heap.size w5 W10 := by rw [hW10]; exact (Below.refl _ _).drew
      have hB10 : B0x ≤ W10.heap.size := by rw [hBe]; exact hb10.size
      have Hfc10 : Hid (∀ W, Below B0x W10 W → W.cell? ⟨B, 0, none⟩ = some (.slice aw m cw) ∧ W.cell? ⟨B, 1, none⟩ = some (.slice a n cap) ∧ W.cell? ⟨D, 0, none⟩ = some (.int .i64 ea) ∧ W.cell? ⟨D, 1, none⟩ = some (.int .i64 eb) ∧ W.cell? ⟨D, 2, none⟩ = some (.int .i64 ec)) := fun W hb => by
        have hb2 : Below w5.heap.size w5 W := hb10.trans (by rw [hBe] at hb; exact hb)
        exact ⟨(hb2.cell (p := ⟨B, 0, none⟩) q5).trans c0, (hb2.cell (p := ⟨B, 1, none⟩) q5).trans c1, (hb2.cell (p := ⟨D, 0, none⟩) q5D).trans f0, (hb2.cell (p := ⟨D, 1, none⟩) q5D).trans f1, (hb2.cell (p := ⟨D, 2, none⟩) q5D).trans f2⟩
      have Hw10 : Hid (∀ W', Below B0x W10 W' → Below W.heap.size W W') := fun W hb => H5.out.1.trans ((hb10.trans (by rw [hBe] at hb; exact hb)).mono H5.out.1.size)
      have Hb10 : Hid (Below B0x W10 W10) := Below.refl _ _
      clear hb10 hW10 hBe c0 c1 f0 f1 f2
      refine wpAnyH_take (i := 0) (by simp only [List.getElem?_toArray, List.getElem?_cons_zero]; rfl) (by kernel_rfl) (by kernel_rfl) (by kernel_rfl) (by intro _ _ _ h; exact h) (Or.inl ⟨by rfl, fun w hw => by (obtain ⟨c0, c1, f0, f1, f2⟩ := Hfc10.out w hw; go_simp; try rfl)⟩) Hb10.out ?_
      go_frame
      refine wpAnyH_ready (rs := [1]) (by kernel_rfl) (by simp) ?_
      refine AllReadyH.cons rfl (fun K hK => ?_) AllReadyH.nil
      go_simp
      refine (ncheck_any p (.slice aw m cw) (.slice a n cap) vp vb W10 (HP.out.later (Hw10.out _ Hb10.out))).mono ?_
      rintro e w11 ⟨rfl, hb11⟩
      rw [← Hu.out]
      unfold fltV
      have Hb11 : Hid (Below B0x W10 w11) := hb11.mono hB10
      clear hb11
      refine hK.out _ _ Hb11.out (fun _ => ?_)
      clear hK K
      refine wpAnyH_take (i := 2) (by simp only [List.getElem?_toArray, List.getElem?_cons_succ, List.getElem?_cons_zero]; rfl) (by kernel_rfl) (by kernel_rfl) (by kernel_rfl) (by intro _ _ _ h; exact h) (Or.inl ⟨by rfl, fun w hw => by (obtain ⟨c0, c1, f0, f1, f2⟩ := Hfc10.out w hw; go_simp; try rfl)⟩) Hb11.out ?_
      refine wpAnyH_take (i := 3) (by simp only [List.getElem?_toArray, List.getElem?_cons_succ, List.getElem?_cons_zero]; rfl) (by kernel_rfl) (by kernel_rfl) (by kernel_rfl) (by intro _ _ _ h; exact h) (Or.inl ⟨by rfl, fun w hw => by (obtain ⟨c0, c1, f0, f1, f2⟩ := Hfc10.out w hw; go_simp; try rfl)⟩) Hb11.out ?_
      go_frame
      refine wpAnyH_take (i := 4) (by simp only [List.getElem?_toArray, List.getElem?_cons_succ, List.getElem?_cons_zero]; rfl) (by kernel_rfl) (by kernel_rfl) (by kernel_rfl) (by intro _ _ _ h; exact h) (Or.inl ⟨by rfl, fun w hw => by (obtain ⟨c0, c1, f0, f1, f2⟩ := Hfc10.out w hw; go_simp; try rfl)⟩) Hb11.out ?_
      refine wpAnyH_take (i := 5) (by simp only [List.getElem?_toArray, List.getElem?_cons_succ, List.getElem?_cons_zero]; rfl) (by kernel_rfl) (by kernel_rfl) (by kernel_rfl) (by intro _ _ _ h; exact h) (Or.inl ⟨by rfl, fun w hw => by (obtain ⟨c0, c1, f0, f1, f2⟩ := Hfc10.out w hw; go_simp; try rfl)⟩) Hb11.out ?_
      go_frame
      refine wpAnyH_take (i := 6) (by simp only [List.getElem?_toArray, List.getElem?_cons_succ, List.getElem?_cons_zero]; rfl) (by kernel_rfl) (by kernel_rfl) (by kernel_rfl) (by intro _ _ _ h; exact h) (Or.inl ⟨by rfl, fun w hw => by (obtain ⟨c0, c1, f0, f1, f2⟩ := Hfc10.out w hw; go_simp; try rfl)⟩) Hb11.out ?_
      go_frame
      refine wpAnyH_ready (rs := [7]) (by kernel_rfl) (by simp) ?_
      refine AllReadyH.cons rfl (fun K hK => ?_) AllReadyH.nil
      go_simp
      refine (ncheck_any p (.slice aw m cw) (.slice a n cap) vp vb w11 (HP.out.later (Hw10.out _ Hb11.out))).mono ?_
      rintro e w12 ⟨rfl, hb12⟩
      rw [← Hu.out]
      unfold fltV
      have Hb12 : Hid (Below B0x W10 w12) := Hb11.out.trans (hb12.mono (Nat.le_trans hB10 Hb11.out.size))
      clear hb12
      refine hK.out _ _ Hb12.out (fun _ => ?_)
      clear hK K
      refine wpAnyH_take (i := 8) (by simp only [List.getElem?_toArray, List.getElem?_cons_succ, List.getElem?_cons_zero]; rfl) (by kernel_rfl) (by kernel_rfl) (by kernel_rfl) (by intro _ _ _ h; exact h) (Or.inl ⟨by rfl, fun w hw => by (obtain ⟨c0, c1, f0, f1, f2⟩ := Hfc10.out w hw; go_simp; try rfl)⟩) Hb12.out ?_
      refine wpAnyH_take (i := 9) (by simp only [List.getElem?_toArray, List.getElem?_cons_succ, List.getElem?_cons_zero]; rfl) (by kernel_rfl) (by kernel_rfl) (by kernel_rfl) (by intro _ _ _ h; exact h) (Or.inl ⟨by rfl, fun w hw => by (obtain ⟨c0, c1, f0, f1, f2⟩ := Hfc10.out w hw; go_simp; try rfl)⟩) Hb12.out ?_
      go_frame
      refine wpAnyH_take (i := 10) (by simp only [List.getElem?_toArray, List.getElem?_cons_succ, List.getElem?_cons_zero]; rfl) (by kernel_rfl) (by kernel_rfl) (by kernel_rfl) (by intro _ _ _ h; exact h) (Or.inl ⟨by rfl, fun w hw => by (obtain ⟨c0, c1, f0, f1, f2⟩ := Hfc10.out w hw; go_simp; try rfl)⟩) Hb12.out ?_
      go_frame
      try go_frame
      refine wpAnyH_done (by kernel_rfl) ?_ _
      go_wp2_with fail
      go_ret
      exact ⟨by rfl, Hw10.out _ Hb12.out⟩
    --B>
end Go.Proofs.Ytgcplcffejbniaa
