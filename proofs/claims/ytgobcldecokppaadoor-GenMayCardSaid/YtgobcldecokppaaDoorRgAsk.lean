/- ranges: the questions that are asked of expressions. -/
import Derived.Test.YtgobcldecokppaaDoorRgEvery
namespace Go.Proofs.YtgobcldecokppaaDoor
open Go.RowKit Go.Maps

/-- Block b is a map that counts just the names of R. -/
def NumsOf (V : World) (b : Nat) (R : List ByteArray) (m : Nat) : Prop := ∃ S F, SMap V b S F ∧ (∀ y, y ∈ S ↔ y ∈ R) ∧ (∀ y, y ∈ R → 1 ≤ F y ∧ F y ≤ (m : Int)) ∧ (∀ y, y ∉ R → F y = 0) ∧ S.length ≤ m
theorem NumsOf.at_block {V V' : World} {b m : Nat} {R : List ByteArray} (h : NumsOf V b R m) (hb : V'.heap[b]? = V.heap[b]?) : NumsOf V' b R m := by
  obtain ⟨S, F, h1, h2⟩ := h
  exact ⟨S, F, h1.at_block hb, h2⟩
theorem NumsOf.lt {V : World} {b m : Nat} {R : List ByteArray} (h : NumsOf V b R m) : b < V.heap.size := by obtain ⟨S, F, h1, _⟩ := h; exact h1.lt
theorem NumsOf.later {V V' : World} {b m : Nat} {R : List ByteArray} (h : NumsOf V b R m) (hb : Below V.heap.size V V') : NumsOf V' b R m := h.at_block (hb.block b h.lt)
theorem NumsOf.mono {V : World} {b m m' : Nat} {R : List ByteArray} (h : NumsOf V b R m) (hm : m ≤ m') : NumsOf V b R m' := by
  obtain ⟨S, F, h1, h2, h3, h4, h5⟩ := h
  exact ⟨S, F, h1, h2, fun y hy => by have := h3 y hy; omega, h4, by omega⟩
theorem NumsOf.pos {V : World} {b m : Nat} {R : List ByteArray} (h : NumsOf V b R m) (y : ByteArray) : ∃ S F z, SMap V b S F ∧ F y = z ∧ decide (0 < z) = decide (y ∈ R) := by
  obtain ⟨S, F, h1, h2, h3, h4, h5⟩ := h
  refine ⟨S, F, F y, h1, rfl, ?_⟩
  by_cases hy : y ∈ R
  · have := h3 y hy
    rw [decide_eq_true hy, decide_eq_true (by omega)]
  · have := h4 y hy
    rw [decide_eq_false hy, decide_eq_false (by omega)]
set_option maxRecDepth 100000 in
set_option maxHeartbeats 1000000 in
theorem bound1_any (Bp bm : Nat) (R : List ByteArray) (m : Nat) (x : Ex) (a : Option Addr) (cap : Nat) (V : World) (hc : V.cell? ⟨Bp, 0, none⟩ = some (.map (some bm))) (hN : NumsOf V bm R m) (hs : x.name.size ≤ 16) :
    Calls Tryd.prog 42 #[exVal x (.slice a x.args.length cap), .pointer (some ⟨Bp, 0, none⟩)] V (Gives (.bool (bndQ R x)) V) := by
  obtain ⟨kk, nn, s, l⟩ := x
  obtain ⟨n, hn⟩ : ∃ n, n = l.length := ⟨_, rfl⟩
  unfold exVal Ex.kind Ex.n Ex.name Ex.args
  simp only [Ex.name] at hs
  simp only
  rw [← hn]
  have hs2 : s.size ≤ maxLen := by unfold maxLen; omega
  obtain ⟨W1, hW1⟩ : ∃ W1, W1 = V.alloc (.cells #[.int .i64 kk, .int .i64 nn, .string s, .slice a n cap] 53) := ⟨_, rfl⟩
  obtain ⟨B, hBe⟩ : ∃ B, B = V.heap.size := ⟨_, rfl⟩
  have hb1 : Below V.heap.size V W1 := by rw [hW1]; exact (Below.refl _ _).alloc (Nat.le_refl _) _
  have c0 : W1.cell? ⟨B, 0, none⟩ = some (.int .i64 kk) := by rw [hW1, hBe]; exact World.cell?_alloc_at _ _ _ _ rfl
  have c2 : W1.cell? ⟨B, 2, none⟩ = some (.string s) := by rw [hW1, hBe]; exact World.cell?_alloc_at _ _ _ _ rfl
  have hc1 := (hb1.cell (p := ⟨Bp, 0, none⟩) (block_lt_of_cell hc)).trans hc
  obtain ⟨S, F, z, hS, hF, hz⟩ := (hN.later hb1).pos s
  have HS := Lib.hid (And.intro hS (And.intro hF hz))
  have Hb1 := Lib.hid hb1
  have HW1 := Lib.hid (And.intro hW1 hBe)
  have Hq : Hid (∀ r, bndQ R (.mk kk nn s l) = r ↔ (if kk = 2 then decide (s ∈ R) else decide (kk = 1 ∨ kk = 5 ∨ kk = 7 ∨ kk = 8 ∨ kk = 9)) = r) := fun _ => Iff.rfl
  obtain ⟨r, hr⟩ : ∃ r, r = bndQ R (.mk kk nn s l) := ⟨_, rfl⟩
  rw [← hr]
  have Hr := Lib.hid ((Hq.out r).1 hr.symm)
  clear hN hW1 hBe hS hF hz hb1 hc hr Hq hn
  go_enter Tryd.func42, Tryd.ntmps42
  go_upto_region 1 with (fail)
  rw [← HW1.out.1, ← HW1.out.2]
  by_cases h2 : kk = 2
  · subst h2
    have hd : decide (0 < z) = r := by rw [HS.out.2.2, ← Hr.out]; rfl
    have Hd := Lib.hid hd
    clear hd
    go_wp2_with (at_lookup; refine sm_look (t := 60) Tryd.underlying60 (by kernel_rfl) rfl _ _ rfl bm S F rfl HS.out.1 s rfl hs2 z HS.out.2.1 ?_)
    go_ret
    exact ⟨by rw [Hd.out]; try rfl, Hb1.out⟩
  · have q2 : (kk == 2) = false := by simp [h2]
    by_cases h1 : kk = 1 ∨ kk = 5 ∨ kk = 7 ∨ kk = 8 ∨ kk = 9
    · have hrt : r = true := by rw [← Hr.out, if_neg h2]; exact decide_eq_true h1
      have Hrt := Lib.hid hrt
      clear hrt h2 q2 c2
      rcases h1 with rfl | rfl | rfl | rfl | rfl
      all_goals
        go_wp2_with fail
        go_ret
        exact ⟨by rw [Hrt.out]; try rfl, Hb1.out⟩
    · have hrt : r = false := by rw [← Hr.out, if_neg h2]; exact decide_eq_false h1
      have Hrt := Lib.hid hrt
      have q1 : (kk == 1) = false := by simp; omega
      have q5 : (kk == 5) = false := by simp; omega
      have q7 : (kk == 7) = false := by simp; omega
      have q8 : (kk == 8) = false := by simp; omega
      have q9 : (kk == 9) = false := by simp; omega
      clear hrt h1 h2 c2
      go_wp2_with fail
      go_ret
      exact ⟨by rw [Hrt.out]; try rfl, Hb1.out⟩
theorem bound1_asks (Bp bm : Nat) (R : List ByteArray) (m : Nat) : Asks 42 #[.pointer (some ⟨Bp, 0, none⟩)] (fun V => V.cell? ⟨Bp, 0, none⟩ = some (.map (some bm)) ∧ NumsOf V bm R m) (bndQ R) :=
  ⟨fun args w => enters Tryd.func42 (by kernel_rfl) (c := _) (by rfl) args w, fun V V' h hb => ⟨(hb.cell (p := ⟨Bp, 0, none⟩) (block_lt_of_cell h.1)).trans h.1, h.2.later hb⟩,
    fun V x a cap h hs _ _ => bound1_any Bp bm R m x a cap V h.1 h.2 ((Ex.short_eq x).1 hs).1⟩
set_option maxRecDepth 100000 in
/-- ranges.bound. -/
theorem bound_any (bm : Nat) (R : List ByteArray) (m : Nat) (x : Ex) (v : Value) (w0 W : World) (hx : ExsIn w0 x.args v) (hs : x.short) (hB : Below w0.heap.size w0 W) (hN : NumsOf W bm R m) :
    Calls Tryd.prog 27 #[exVal x v, .map (some bm)] W (Gives (.bool (x.evr (bndQ R))) W) := by
  obtain ⟨a, cap, rfl, hc1, hc2⟩ := hx.form
  obtain ⟨n, hn⟩ : ∃ n, n = x.args.length := ⟨_, rfl⟩
  obtain ⟨W1, hW1⟩ : ∃ W1, W1 = (W.alloc (.cells #[.int .i64 x.kind, .int .i64 x.n, .string x.name, .slice a n cap] 53)).alloc (.cells #[.map (some bm)] 60) := ⟨_, rfl⟩
  obtain ⟨B, hBe⟩ : ∃ B, B = W.heap.size := ⟨_, rfl⟩
  have hb1 : Below W.heap.size W W1 := by rw [hW1]; exact ((Below.refl _ _).alloc (Nat.le_refl _) _).alloc (by (try simp only [World.size_alloc]); (try simp only [size_set]); omega) _
  have hx1 : ExAt W1 B 0 x (.slice a n cap) := by
    rw [hW1, hBe]
    exact (ExAt.boxed W x _ _).later ((Below.refl _ _).alloc (Nat.le_refl _) _) (by simp)
  have hc : W1.cell? ⟨B + 1, 0, none⟩ = some (.map (some bm)) := by rw [hW1, hBe]; exact World.cell?_alloc_at _ _ _ _ (by simp)
  have Hcall := Lib.hid (every_any _ _ _ _ (bound1_asks (B + 1) bm R m) w0 _ _ hx x rfl hs W1 (hB.trans (hb1.mono hB.size)) ⟨hc, hN.later hb1⟩)
  rw [← hn] at Hcall
  rw [← hn]
  have HW1 := Lib.hid (And.intro hW1 hBe)
  have Hb1 := Lib.hid hb1
  unfold exVal at Hcall ⊢
  clear hx hN hb1 hc hW1 hBe hB hn
  go_enter Tryd.func27, Tryd.ntmps27
  go_upto_region 1 with (fail)
  rw [← HW1.out.1, ← HW1.out.2]
  obtain ⟨c0, c1, c2, c3⟩ := hx1
  go_wp2_with fail
  refine Hcall.out.mono ?_
  rintro e w2 ⟨rfl, hb2⟩
  have H2 := Lib.hid (Hb1.out.trans (hb2.mono Hb1.out.size))
  clear hb2 c0 c1 c2 c3
  go_wp2_with fail
  go_ret
  exact ⟨rfl, H2.out⟩
/-- The map of how many parameters a function has. -/
def ArOf (V : World) (b : Nat) (ar : ByteArray → Int) (m : Nat) : Prop := ∃ S, SMap V b S ar ∧ S.length ≤ m
theorem ArOf.at_block {V V' : World} {b m : Nat} {ar : ByteArray → Int} (h : ArOf V b ar m) (hb : V'.heap[b]? = V.heap[b]?) : ArOf V' b ar m := by
  obtain ⟨S, h1, h2⟩ := h
  exact ⟨S, h1.at_block hb, h2⟩
theorem ArOf.lt {V : World} {b m : Nat} {ar : ByteArray → Int} (h : ArOf V b ar m) : b < V.heap.size := by obtain ⟨S, h1, _⟩ := h; exact h1.lt
theorem ArOf.later {V V' : World} {b m : Nat} {ar : ByteArray → Int} (h : ArOf V b ar m) (hb : Below V.heap.size V V') : ArOf V' b ar m := h.at_block (hb.block b h.lt)
set_option maxRecDepth 100000 in
set_option maxHeartbeats 1000000 in
theorem own1_any (Bp bm : Nat) (ar : ByteArray → Int) (m : Nat) (x : Ex) (a : Option Addr) (cap : Nat) (V : World) (hc : V.cell? ⟨Bp, 0, none⟩ = some (.map (some bm))) (hN : ArOf V bm ar m) (hs : x.name.size ≤ 16) :
    Calls Tryd.prog 29 #[exVal x (.slice a x.args.length cap), .pointer (some ⟨Bp, 0, none⟩)] V (Gives (.bool (cntQ ar x)) V) := by
  obtain ⟨kk, nn, s, l⟩ := x
  obtain ⟨n, hn⟩ : ∃ n, n = l.length := ⟨_, rfl⟩
  unfold exVal Ex.kind Ex.n Ex.name Ex.args
  simp only [Ex.name] at hs
  simp only
  have Hr : Hid (cntQ ar (.mk kk nn s l) = (decide (kk ≠ 4) || decide ((n : Int) = ar s))) := by show _ = _; rw [hn]; rfl
  rw [← hn]
  have hs2 : s.size ≤ maxLen := by unfold maxLen; omega
  obtain ⟨r, hr⟩ : ∃ r, r = cntQ ar (.mk kk nn s l) := ⟨_, rfl⟩
  rw [← hr] at Hr
  rw [← hr]
  obtain ⟨W1, hW1⟩ : ∃ W1, W1 = V.alloc (.cells #[.int .i64 kk, .int .i64 nn, .string s, .slice a n cap] 53) := ⟨_, rfl⟩
  obtain ⟨B, hBe⟩ : ∃ B, B = V.heap.size := ⟨_, rfl⟩
  have hb1 : Below V.heap.size V W1 := by rw [hW1]; exact (Below.refl _ _).alloc (Nat.le_refl _) _
  have c0 : W1.cell? ⟨B, 0, none⟩ = some (.int .i64 kk) := by rw [hW1, hBe]; exact World.cell?_alloc_at _ _ _ _ rfl
  have c2 : W1.cell? ⟨B, 2, none⟩ = some (.string s) := by rw [hW1, hBe]; exact World.cell?_alloc_at _ _ _ _ rfl
  have c3 : W1.cell? ⟨B, 3, none⟩ = some (.slice a n cap) := by rw [hW1, hBe]; exact World.cell?_alloc_at _ _ _ _ rfl
  have hc1 := (hb1.cell (p := ⟨Bp, 0, none⟩) (block_lt_of_cell hc)).trans hc
  obtain ⟨S, hS, hSl⟩ := hN.later hb1
  obtain ⟨z, hz⟩ : ∃ z, z = ar s := ⟨_, rfl⟩
  rw [← hz] at Hr
  have HS := Lib.hid (And.intro hS hz)
  have Hb1 := Lib.hid hb1
  have HW1 := Lib.hid (And.intro hW1 hBe)
  clear hN hW1 hBe hS hz hb1 hc hr hn
  go_enter Tryd.func29, Tryd.ntmps29
  go_upto_region 1 with (fail)
  rw [← HW1.out.1, ← HW1.out.2]
  by_cases h4 : kk = 4
  · subst h4
    have hd : r = ((n : Int) == z) := by rw [Hr.out, Bool.eq_iff_iff]; simp
    have Hd := Lib.hid hd
    clear hd
    go_wp2_with (at_lookup; refine sm_look_g (t := 60) Tryd.underlying60 (by kernel_rfl) (by first | rfl | go_simp) _ _ rfl bm S ar rfl HS.out.1 s rfl hs2 z HS.out.2.symm ?_)
    go_ret
    exact ⟨by rw [Hd.out]; try rfl, Hb1.out⟩
  · have q4 : (kk != 4) = true := by simp [h4]
    have hd : r = true := by rw [Hr.out]; simp [h4]
    have Hd := Lib.hid hd
    clear hd
    go_wp2_with fail
    go_ret
    exact ⟨by rw [Hd.out]; try rfl, Hb1.out⟩
theorem own1_asks (Bp bm : Nat) (ar : ByteArray → Int) (m : Nat) : Asks 29 #[.pointer (some ⟨Bp, 0, none⟩)] (fun V => V.cell? ⟨Bp, 0, none⟩ = some (.map (some bm)) ∧ ArOf V bm ar m) (cntQ ar) :=
  ⟨fun args w => enters Tryd.func29 (by kernel_rfl) (c := _) (by rfl) args w, fun V V' h hb => ⟨(hb.cell (p := ⟨Bp, 0, none⟩) (block_lt_of_cell h.1)).trans h.1, h.2.later hb⟩,
    fun V x a cap h hs _ _ => own1_any Bp bm ar m x a cap V h.1 h.2 ((Ex.short_eq x).1 hs).1⟩
end Go.Proofs.YtgobcldecokppaaDoor
