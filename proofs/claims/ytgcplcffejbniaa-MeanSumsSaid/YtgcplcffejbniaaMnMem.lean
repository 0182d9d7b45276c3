/- mean: the sum's program in memory; some answers that the document fixes. -/
import Derived.Test.YtgcplcffejbniaaMnSum
namespace Go.Proofs.Ytgcplcffejbniaa
open Go.RowKit Go.Maps

def BlkM (w : World) (g : Nat) (cs : Array Value) : Prop := g < w.heap.size ∧ ∀ j u, cs[j]? = some u → w.cell? ⟨g, j, none⟩ = some u
theorem BlkM.later {w w' : World} {g B : Nat} {cs : Array Value} (h : BlkM w g cs) (hb : Below B w w') (hB : g < B) : BlkM w' g cs := ⟨Nat.lt_of_lt_of_le h.1 hb.size, fun j u hu => (hb.cell (p := ⟨g, j, none⟩) hB).trans (h.2 j u hu)⟩
theorem BlkM.made {w : World} {cs : Array Value} {t : TypeId} {g : Nat} (hg : g = w.heap.size) : BlkM (w.alloc (.cells cs t)) g cs := ⟨by rw [hg]; simp, fun j u hu => by rw [World.cell?_alloc_at _ _ _ _ hg]; exact hu⟩
def pmC (lo hi : Int) : Array Value := #[.string mA, .int .i64 lo, .int .i64 hi, .string mB, .int .i64 lo, .int .i64 hi]
def agC : Array Value := #[.int .i64 2, .int .i64 0, .string mS, .slice none 0 0, .int .i64 2, .int .i64 0, .string mI, .slice none 0 0]
def asC (ga : Nat) : Array Value := #[.int .i64 3, .string mS, .int .i64 0, .int .i64 7, .int .i64 0, .string ⟨#[]⟩, .slice (some ⟨ga, 0, none⟩) 2 2, .int .i64 0, .int .i64 0, .string ⟨#[]⟩, .slice none 0 0, .slice none 0 0, .slice none 0 0, .slice none 0 0]
def stC3 (gb : Nat) : Array Value := #[.int .i64 1, .string mS, .int .i64 0, .int .i64 1, .int .i64 0, .string ⟨#[]⟩, .slice none 0 0, .int .i64 0, .int .i64 0, .string ⟨#[]⟩, .slice none 0 0, .slice none 0 0, .slice none 0 0, .slice none 0 0,
  .int .i64 7, .string mI, .int .i64 0, .int .i64 2, .int .i64 0, .string mA, .slice none 0 0, .int .i64 2, .int .i64 0, .string mB, .slice none 0 0, .slice (some ⟨gb, 0, none⟩) 1 1, .slice none 0 0, .slice none 0 0,
  .int .i64 9, .string ⟨#[]⟩, .int .i64 0, .int .i64 2, .int .i64 0, .string mS, .slice none 0 0, .int .i64 0, .int .i64 0, .string ⟨#[]⟩, .slice none 0 0, .slice none 0 0, .slice none 0 0, .slice none 0 0]
def fnC3 (gp gs : Nat) : Array Value := #[.string mF, .slice (some ⟨gp, 0, none⟩) 2 2, .slice (some ⟨gs, 0, none⟩) 3 3]
theorem one_at {α : Type} {a x : α} (i : Nat) (h : [a][i]? = some x) : i = 0 ∧ x = a := by
  match i with
  | 0 => simp at h; exact ⟨rfl, h.symm⟩
  | i + 1 => simp at h
theorem two_at {α : Type} {a b x : α} (i : Nat) (h : [a, b][i]? = some x) : i = 0 ∧ x = a ∨ i = 1 ∧ x = b := by
  match i with
  | 0 => simp at h; exact .inl ⟨rfl, h.symm⟩
  | 1 => simp at h; exact .inr ⟨rfl, h.symm⟩
  | i + 2 => simp at h
theorem three_at {α : Type} {a b c x : α} (i : Nat) (h : [a, b, c][i]? = some x) : i = 0 ∧ x = a ∨ i = 1 ∧ x = b ∨ i = 2 ∧ x = c := by
  match i with
  | 0 => simp at h; exact .inl ⟨rfl, h.symm⟩
  | 1 => simp at h; exact .inr (.inl ⟨rfl, h.symm⟩)
  | 2 => simp at h; exact .inr (.inr ⟨rfl, h.symm⟩)
  | i + 3 => simp at h
theorem as_in {w : World} {ga gb : Nat} (ha : BlkM w ga agC) (hb : BlkM w gb (asC ga)) : StsIn w [stAs] (.slice (some ⟨gb, 0, none⟩) 1 1) := by
  have h := hb.2
  refine .mk _ _ (fun _ => .slice (some ⟨ga, 0, none⟩) 2 2) (fun _ => nilV) (fun _ => nilV) (fun _ => nilV) (fun _ => nilV) (fun _ _ => nilV) ?_ (fun i y h => ?_) (fun i y h => ?_) (fun i y h => ?_) (fun i y h => ?_) (fun i y h => ?_) (fun i y k z h hz => ?_)
  · refine ⟨some ⟨gb, 0, none⟩, 1, rfl, Nat.le_refl _, by decide, by simp, fun _ => ⟨gb, 0, rfl, hb.1, fun i hi y hy => ?_⟩⟩
    obtain ⟨rfl, rfl⟩ := one_at i hy
    exact ⟨h 0 _ rfl, h 1 _ rfl, h 2 _ rfl, h 3 _ rfl, h 4 _ rfl, h 5 _ rfl, h 6 _ rfl, h 7 _ rfl, h 8 _ rfl, h 9 _ rfl, h 10 _ rfl, h 11 _ rfl, h 12 _ rfl, h 13 _ rfl⟩
  all_goals obtain ⟨rfl, rfl⟩ := one_at i h
  · have h := ha.2
    refine .mk _ _ (fun _ => nilV) ?_ (fun i y h => ?_)
    · refine ⟨some ⟨ga, 0, none⟩, 2, rfl, Nat.le_refl _, by decide, by simp, fun _ => ⟨ga, 0, rfl, ha.1, fun i hi y hy => ?_⟩⟩
      rcases two_at i hy with ⟨rfl, rfl⟩ | ⟨rfl, rfl⟩
      · exact ⟨h 0 _ rfl, h 1 _ rfl, h 2 _ rfl, h 3 _ rfl⟩
      · exact ⟨h 4 _ rfl, h 5 _ rfl, h 6 _ rfl, h 7 _ rfl⟩
    · rcases two_at i h with ⟨rfl, rfl⟩ | ⟨rfl, rfl⟩ <;> exact exsIn_nil w
  · exact exsIn_nil w
  · exact stsIn_nil w
  · exact stsIn_nil w
  · exact rowOf_nil _ _ _
  · cases hz
theorem sts_in {w : World} {ga gb gs : Nat} (ha : BlkM w ga agC) (hb : BlkM w gb (asC ga)) (hs : BlkM w gs (stC3 gb)) : StsIn w sumB (.slice (some ⟨gs, 0, none⟩) 3 3) := by
  have h := hs.2
  refine .mk _ _ (fun _ => nilV) (fun _ => nilV) (fun i => if i = 1 then .slice (some ⟨gb, 0, none⟩) 1 1 else nilV) (fun _ => nilV) (fun _ => nilV) (fun _ _ => nilV) ?_ (fun i y h => ?_) (fun i y h => ?_) (fun i y h => ?_) (fun i y h => ?_) (fun i y h => ?_) (fun i y k z h hz => ?_)
  · refine ⟨some ⟨gs, 0, none⟩, 3, rfl, Nat.le_refl _, by decide, by simp, fun _ => ⟨gs, 0, rfl, hs.1, fun i hi y hy => ?_⟩⟩
    rcases three_at i hy with ⟨rfl, rfl⟩ | ⟨rfl, rfl⟩ | ⟨rfl, rfl⟩
    · exact ⟨h 0 _ rfl, h 1 _ rfl, h 2 _ rfl, h 3 _ rfl, h 4 _ rfl, h 5 _ rfl, h 6 _ rfl, h 7 _ rfl, h 8 _ rfl, h 9 _ rfl, h 10 _ rfl, h 11 _ rfl, h 12 _ rfl, h 13 _ rfl⟩
    · exact ⟨h 14 _ rfl, h 15 _ rfl, h 16 _ rfl, h 17 _ rfl, h 18 _ rfl, h 19 _ rfl, h 20 _ rfl, h 21 _ rfl, h 22 _ rfl, h 23 _ rfl, h 24 _ rfl, h 25 _ rfl, h 26 _ rfl, h 27 _ rfl⟩
    · exact ⟨h 28 _ rfl, h 29 _ rfl, h 30 _ rfl, h 31 _ rfl, h 32 _ rfl, h 33 _ rfl, h 34 _ rfl, h 35 _ rfl, h 36 _ rfl, h 37 _ rfl, h 38 _ rfl, h 39 _ rfl, h 40 _ rfl, h 41 _ rfl⟩
  · rcases three_at i h with ⟨rfl, rfl⟩ | ⟨rfl, rfl⟩ | ⟨rfl, rfl⟩ <;> exact exsIn_nil w
  · rcases three_at i h with ⟨rfl, rfl⟩ | ⟨rfl, rfl⟩ | ⟨rfl, rfl⟩ <;> exact exsIn_nil w
  · rcases three_at i h with ⟨rfl, rfl⟩ | ⟨rfl, rfl⟩ | ⟨rfl, rfl⟩
    · exact stsIn_nil w
    · exact as_in ha hb
    · exact stsIn_nil w
  · rcases three_at i h with ⟨rfl, rfl⟩ | ⟨rfl, rfl⟩ | ⟨rfl, rfl⟩ <;> exact stsIn_nil w
  · rcases three_at i h with ⟨rfl, rfl⟩ | ⟨rfl, rfl⟩ | ⟨rfl, rfl⟩ <;> exact rowOf_nil _ _ _
  · rcases three_at i h with ⟨rfl, rfl⟩ | ⟨rfl, rfl⟩ | ⟨rfl, rfl⟩ <;> cases hz
theorem sum_in {w : World} {ga gb gs gp gf : Nat} {lo hi : Int} (ha : BlkM w ga agC) (hb : BlkM w gb (asC ga)) (hs : BlkM w gs (stC3 gb)) (hp : BlkM w gp (pmC lo hi)) (hf : BlkM w gf (fnC3 gp gs)) :
    PgIn w (pSum lo hi) nilV (.slice (some ⟨gf, 0, none⟩) 1 1) (fun _ => .slice (some ⟨gp, 0, none⟩) 2 2) (fun _ => .slice (some ⟨gs, 0, none⟩) 3 3) := by
  have cf := hf.2
  have cp := hp.2
  refine ⟨⟨rfl, none, 0, rfl, Nat.le_refl _, Nat.zero_le _, fun _ => rfl, fun h => absurd h (Nat.lt_irrefl _)⟩, ⟨?_, fun i x hx => ?_, fun i x hx => ?_⟩⟩
  · refine ⟨some ⟨gf, 0, none⟩, 1, rfl, Nat.le_refl _, by decide, by simp, fun _ => ⟨gf, 0, rfl, hf.1, fun i hi x hx => ?_⟩⟩
    obtain ⟨rfl, rfl⟩ := one_at i hx
    exact ⟨cf 0 _ rfl, cf 1 _ rfl, cf 2 _ rfl⟩
  · obtain ⟨rfl, rfl⟩ := one_at i hx
    refine ⟨some ⟨gp, 0, none⟩, 2, rfl, Nat.le_refl _, by decide, by simp, fun _ => ⟨gp, 0, rfl, hp.1, fun i hi x hx => ?_⟩⟩
    rcases two_at i hx with ⟨rfl, rfl⟩ | ⟨rfl, rfl⟩
    · exact ⟨cp 0 _ rfl, cp 1 _ rfl, cp 2 _ rfl⟩
    · exact ⟨cp 3 _ rfl, cp 4 _ rfl, cp 5 _ rfl⟩
  · obtain ⟨rfl, rfl⟩ := one_at i hx
    exact sts_in ha hb hs
set_option maxRecDepth 100000 in
theorem number6_any (W : World) : Calls Try.prog 49 #[.int .i64 0] W (Gives (.agg #[.int .i64 1, .int .i64 0, .string ⟨#[]⟩, .slice none 0 0]) W) := by
  go_enter Try.func49, Try.ntmps49
  go_wp2_with fail
  refine bodyPost_ret (by simp [results, Try.results49, go_sem]; try rfl) rfl ?_
  exact ⟨rfl, (Below.refl _ _).alloc (Nat.le_refl _) _⟩
set_option maxRecDepth 100000 in
theorem name6_any (s : ByteArray) (W : World) : Calls Try.prog 50 #[.string s] W (Gives (.agg #[.int .i64 2, .int .i64 0, .string s, .slice none 0 0]) W) := by
  go_enter Try.func50, Try.ntmps50
  go_wp2_with fail
  refine bodyPost_ret (by simp [results, Try.results50, go_sem]; try rfl) rfl ?_
  exact ⟨rfl, (Below.refl _ _).alloc (Nat.le_refl _) _⟩
/-- A sum's program. -/
def SumAt (lo hi : Int) (w : World) (E : Ending) (w' : World) : Prop := ∃ g vp vb, E = .returned (.agg #[.slice none 0 0, .slice (some ⟨g, 0, none⟩) 1 1]) ∧ PgIn w' (pSum lo hi) nilV (.slice (some ⟨g, 0, none⟩) 1 1) vp vb ∧ Below w.heap.size w w'
set_option maxRecDepth 100000 in
set_option maxHeartbeats 4000000 in
theorem sum_any (lo hi : Int) (W : World) : Calls Try.prog 29 #[.int .i64 lo, .int .i64 hi] W (SumAt lo hi W) := by
  obtain ⟨R, hR⟩ : ∃ R, R = W.heap.size := ⟨_, rfl⟩
  obtain ⟨W1, hW1⟩ : ∃ W1, W1 = (W.alloc (.cells #[.slice none 0 0, .slice none 0 0] 26)).alloc (.cells (pmC lo hi) 63) := ⟨_, rfl⟩
  have q1 : (W.alloc (.cells #[.slice none 0 0, .slice none 0 0] 26)).heap.size = R + 1 := by rw [hR]; simp
  have hb1 : Below W.heap.size W W1 := by rw [hW1]; exact ((Below.refl _ _).alloc (Nat.le_refl _) _).alloc (by (try simp only [World.size_alloc]); (try simp only [size_set]); omega) _
  have hp1 : BlkM W1 (R + 1) (pmC lo hi) := by rw [hW1]; exact .made q1.symm
  have r0 : W1.cell? ⟨R, 0, none⟩ = some (.slice none 0 0) ∧ W1.cell? ⟨R, 1, none⟩ = some (.slice none 0 0) ∧ W1.frozen? ⟨R, 0, none⟩ = false ∧ W1.frozen? ⟨R, 1, none⟩ = false := by
    have k : Below (R + 1) (W.alloc (.cells #[.slice none 0 0, .slice none 0 0] 26)) W1 := by rw [hW1]; exact (Below.refl _ _).alloc (by omega) _
    exact ⟨(k.cell (p := ⟨R, 0, none⟩) (Nat.lt_succ_self R)).trans (World.cell?_alloc_at _ _ _ _ hR), (k.cell (p := ⟨R, 1, none⟩) (Nat.lt_succ_self R)).trans (World.cell?_alloc_at _ _ _ _ hR), (k.frozen (p := ⟨R, 0, none⟩) (Nat.lt_succ_self R)).trans (World.frozen?_alloc_at _ _ _ _ hR), (k.frozen (p := ⟨R, 1, none⟩) (Nat.lt_succ_self R)).trans (World.frozen?_alloc_at _ _ _ _ hR)⟩
  have H1 := Lib.hid (And.intro hb1 (And.intro hp1 r0))
  have HW1 := Lib.hid (And.intro hW1 hR)
  have HWR : Hid (W.heap.size ≤ R) := by show _ ≤ _; omega
  clear hW1 hR q1 hb1 hp1 r0
  go_enter Try.func29, Try.ntmps29
  unfold pmC at HW1
  go_wp2_with fail
  rw [← HW1.out.2, show (⟨#[97]⟩ : ByteArray) = mA from rfl, show (⟨#[98]⟩ : ByteArray) = mB from rfl, ← HW1.out.1]
  refine (number6_any W1).mono ?_
  rintro E w2 ⟨rfl, hb2⟩
  have H2 := Lib.hid hb2
  clear hb2
  go_wp2_with fail
  refine (name6_any _ w2).mono ?_
  rintro E w3 ⟨rfl, hb3⟩
  have H3 := Lib.hid (H2.out.trans (hb3.mono H2.out.size))
  clear hb3
  go_wp2_with fail
  refine (name6_any _ w3).mono ?_
  rintro E w4 ⟨rfl, hb4⟩
  have H4 := Lib.hid (H3.out.trans (hb4.mono H3.out.size))
  clear hb4
  go_wp2_with fail
  refine (name6_any _ w4).mono ?_
  rintro E w5 ⟨rfl, hb5⟩
  have H5 := Lib.hid (H4.out.trans (hb5.mono H4.out.size))
  clear hb5
  go_wp2_with fail
  refine (name6_any _ w5).mono ?_
  rintro E w6 ⟨rfl, hb6⟩
  have H6 := Lib.hid (H5.out.trans (hb6.mono H5.out.size))
  clear hb6
  obtain ⟨ga, hga⟩ : ∃ g, g = w6.heap.size := ⟨_, rfl⟩
  obtain ⟨W8, hW8⟩ : ∃ W8, W8 = (w6.alloc (.cells agC 43)).alloc (.cells (asC ga) 48) := ⟨_, rfl⟩
  have q8 : (w6.alloc (.cells agC 43)).heap.size = ga + 1 := by rw [hga]; simp
  have ha8 : BlkM W8 ga agC := by
    have h1 : BlkM (w6.alloc (.cells agC 43)) ga agC := .made hga
    rw [hW8]
    exact h1.later ((Below.refl _ _).alloc (Nat.le_refl _) _) h1.1
  have hb8 : BlkM W8 (ga + 1) (asC ga) := by rw [hW8]; exact .made q8.symm
  have hB8 : Below w6.heap.size w6 W8 := by rw [hW8]; exact ((Below.refl _ _).alloc (Nat.le_refl _) _).alloc (by (try simp only [World.size_alloc]); (try simp only [size_set]); omega) _
  have H8 := Lib.hid (And.intro (H6.out.trans (hB8.mono H6.out.size)) (And.intro ha8 hb8))
  have HW8 := Lib.hid (And.intro hW8 hga)
  unfold agC asC at HW8
  clear hga hW8 q8 ha8 hb8 hB8
  go_wp2_with fail
  rw [← HW8.out.2, show (⟨#[115]⟩ : ByteArray) = mS from rfl, show (⟨#[105]⟩ : ByteArray) = mI from rfl, ← HW8.out.1]
  refine (name6_any _ W8).mono ?_
  rintro E w9 ⟨rfl, hb9⟩
  obtain ⟨gs, hgs⟩ : ∃ g, g = w9.heap.size := ⟨_, rfl⟩
  have hR1 : R < W1.heap.size := block_lt_of_cell H1.out.2.2.1
  have h8s := H8.out.1.size
  have h9s := hb9.size
  have hR9 : R < w9.heap.size := by omega
  have e0 := (hb9.cell (p := ⟨R, 0, none⟩) (by show R < _; omega)).trans ((H8.out.1.cell (p := ⟨R, 0, none⟩) hR1).trans H1.out.2.2.1)
  have e1 := (hb9.cell (p := ⟨R, 1, none⟩) (by show R < _; omega)).trans ((H8.out.1.cell (p := ⟨R, 1, none⟩) hR1).trans H1.out.2.2.2.1)
  have e2 := (hb9.frozen (p := ⟨R, 0, none⟩) (by show R < _; omega)).trans ((H8.out.1.frozen (p := ⟨R, 0, none⟩) hR1).trans H1.out.2.2.2.2.1)
  have e3 := (hb9.frozen (p := ⟨R, 1, none⟩) (by show R < _; omega)).trans ((H8.out.1.frozen (p := ⟨R, 1, none⟩) hR1).trans H1.out.2.2.2.2.2)
  obtain ⟨V9, hV9⟩ : ∃ V, V = (w9.setCell ⟨R, 0, none⟩ (.slice none 0 0)).setCell ⟨R, 1, none⟩ (.slice (some ⟨gs + 1, 0, none⟩) 1 1) := ⟨_, rfl⟩
  have hO9 : Oth (· = R) w9 V9 := by rw [hV9]; exact ((Oth.refl (· = R) w9).set (p := ⟨R, 0, none⟩) rfl _).set (p := ⟨R, 1, none⟩) rfl _
  have hs9 : V9.heap.size = gs := by rw [hV9, size_set, size_set, hgs]
  have d0 : V9.cell? ⟨R, 0, none⟩ = some (.slice none 0 0) := by
    rw [hV9, World.cell?_setCell_other _ _ _ _ (by intro e; cases e)]
    exact World.cell?_setCell_same' _ _ _ (by rw [e0]; rfl)
  have d1 : V9.cell? ⟨R, 1, none⟩ = some (.slice (some ⟨gs + 1, 0, none⟩) 1 1) := by
    rw [hV9]
    exact World.cell?_setCell_same' _ _ _ (by rw [World.cell?_setCell_other _ _ _ _ (by intro e; cases e), e1]; rfl)
  obtain ⟨W10, hW10⟩ : ∃ W8, W8 = (V9.alloc (.cells (stC3 (ga + 1)) 48)).alloc (.cells (fnC3 (R + 1) gs) 40) := ⟨_, rfl⟩
  have q10 : (V9.alloc (.cells (stC3 (ga + 1)) 48)).heap.size = gs + 1 := by simp [hs9]
  have hB10 : Below V9.heap.size V9 W10 := by rw [hW10]; exact ((Below.refl _ _).alloc (Nat.le_refl _) _).alloc (by (try simp only [World.size_alloc]); (try simp only [size_set]); omega) _
  have hs10 : BlkM W10 gs (stC3 (ga + 1)) := by
    have h1 : BlkM (V9.alloc (.cells (stC3 (ga + 1)) 48)) gs (stC3 (ga + 1)) := .made hs9.symm
    rw [hW10]
    exact h1.later ((Below.refl _ _).alloc (Nat.le_refl _) _) h1.1
  have hf10 : BlkM W10 (gs + 1) (fnC3 (R + 1) gs) := by rw [hW10]; exact .made q10.symm
  have hgsR : R + 1 < gs ∧ R + 1 < ga := by
    have h1 := H1.out.2.1.1
    have h6 := H6.out.size
    have h2 := HW8.out.2
    constructor <;> omega
  have k : ∀ {g : Nat} {cs : Array Value}, BlkM w9 g cs → g ≠ R → BlkM W10 g cs := fun h hne => by
    have h2 : BlkM V9 _ _ := ⟨Nat.lt_of_lt_of_le h.1 hO9.size, fun j u hu => (hO9.cell (p := ⟨_, j, none⟩) h.1 hne).trans (h.2 j u hu)⟩
    exact h2.later hB10 h2.1
  have hp10 : BlkM W10 (R + 1) (pmC lo hi) := k ((H1.out.2.1.later H8.out.1 H1.out.2.1.1).later hb9 (Nat.lt_of_lt_of_le H1.out.2.1.1 h8s)) (by omega)
  have ha10 : BlkM W10 ga agC := k (H8.out.2.1.later hb9 H8.out.2.1.1) (by omega)
  have hb10 : BlkM W10 (ga + 1) (asC ga) := k (H8.out.2.2.later hb9 H8.out.2.2.1) (by omega)
  have hBW : Below W.heap.size W W10 := by
    have h1 : Below W.heap.size W w9 := H1.out.1.trans ((H8.out.1.trans (hb9.mono h8s)).mono H1.out.1.size)
    have h2 : Below W.heap.size W V9 := by rw [hV9]; exact (h1.setCell (p := ⟨R, 0, none⟩) HWR.out _).setCell (p := ⟨R, 1, none⟩) HWR.out _
    exact h2.trans (hB10.mono h2.size)
  have f0 := (hB10.cell (p := ⟨R, 0, none⟩) (by show R < _; omega)).trans d0
  have f1 := (hB10.cell (p := ⟨R, 1, none⟩) (by show R < _; omega)).trans d1
  have H10 := Lib.hid (And.intro (sum_in ha10 hb10 hs10 hp10 hf10) hBW)
  have HF := Lib.hid (And.intro f0 f1)
  have HW10 := Lib.hid (And.intro hW10 (And.intro hgs hV9))
  unfold stC3 fnC3 at HW10
  clear hW10 hgs hV9 hO9 hs9 d0 d1 q10 hB10 hs10 hf10 k hp10 ha10 hb10 hBW hb9 f0 f1 h8s h9s
  go_wp2_with fail
  rw [← HW10.out.2.1, show (⟨#[102]⟩ : ByteArray) = mF from rfl, show (⟨#[97]⟩ : ByteArray) = mA from rfl, show (⟨#[98]⟩ : ByteArray) = mB from rfl, ← HW10.out.2.2, ← HW10.out.1]
  obtain ⟨f0, f1⟩ := HF.out
  clear e0 e1 e2 e3
  refine bodyPost_ret (by simp [results, Try.results29, go_sem, f0, f1]; try rfl) rfl ?_
  exact ⟨gs + 1, _, _, rfl, H10.out.1, H10.out.2⟩
end Go.Proofs.Ytgcplcffejbniaa
