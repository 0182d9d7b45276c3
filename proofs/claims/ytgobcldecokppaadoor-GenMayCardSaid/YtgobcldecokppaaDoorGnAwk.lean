/- soffitlaw22.awake. -/
import Derived.Test.YtgobcldecokppaaDoorGnMod
import Derived.Test.YtgobcldecokppaaDoorGnModW
/- gen: the program of 'awake', in memory; what it comes to. -/
namespace Go.Proofs.YtgobcldecokppaaDoor
open Go.RowKit Go.Maps

def gBlk (w : World) (g : Nat) (cs : Array Value) : Prop := g < w.heap.size ∧ ∀ j u, cs[j]? = some u → w.cell? ⟨g, j, none⟩ = some u
theorem gBlk.later {w w' : World} {g B : Nat} {cs : Array Value} (h : gBlk w g cs) (hb : Below B w w') (hB : g < B) : gBlk w' g cs := ⟨Nat.lt_of_lt_of_le h.1 hb.size, fun j u hu => (hb.cell (p := ⟨g, j, none⟩) hB).trans (h.2 j u hu)⟩
theorem gBlk.made {w : World} {cs : Array Value} {t : TypeId} {g : Nat} (hg : g = w.heap.size) : gBlk (w.alloc (.cells cs t)) g cs := ⟨by rw [hg]; simp, fun j u hu => by rw [World.cell?_alloc_at _ _ _ _ hg]; exact hu⟩
def gA : ByteArray := ⟨#[97]⟩
def gF : ByteArray := ⟨#[102]⟩
def gE0 : Ex := .mk 0 0 ⟨#[]⟩ []
def gEx : Ex := .mk 18 0 ⟨#[]⟩ [.mk 2 0 gA [], .mk 1 2 ⟨#[]⟩ []]
def gSt : St := .mk 9 ⟨#[]⟩ 0 gEx gE0 [] [] []
def pAw : Pg := ⟨[], [⟨gF, [⟨gA, 0, 3⟩], [gSt]⟩]⟩
def gcE : Array Value := #[.int .i64 2, .int .i64 0, .string gA, .slice none 0 0, .int .i64 1, .int .i64 2, .string ⟨#[]⟩, .slice none 0 0]
def gcS (ge : Nat) : Array Value := #[.int .i64 9, .string ⟨#[]⟩, .int .i64 0, .int .i64 18, .int .i64 0, .string ⟨#[]⟩, .slice (some ⟨ge, 0, none⟩) 2 2, .int .i64 0, .int .i64 0, .string ⟨#[]⟩, .slice none 0 0, .slice none 0 0, .slice none 0 0, .slice none 0 0]
def gcP : Array Value := #[.string gA, .int .i64 0, .int .i64 3]
def gcF (gp gs : Nat) : Array Value := #[.string gF, .slice (some ⟨gp, 0, none⟩) 1 1, .slice (some ⟨gs, 0, none⟩) 1 1]
theorem g_one {α : Type} {a x : α} (i : Nat) (h : [a][i]? = some x) : i = 0 ∧ x = a := by
  match i with
  | 0 => simp at h; exact ⟨rfl, h.symm⟩
  | i + 1 => simp at h
theorem g_two {α : Type} {a b x : α} (i : Nat) (h : [a, b][i]? = some x) : i = 0 ∧ x = a ∨ i = 1 ∧ x = b := by
  match i with
  | 0 => simp at h; exact .inl ⟨rfl, h.symm⟩
  | 1 => simp at h; exact .inr ⟨rfl, h.symm⟩
  | i + 2 => simp at h
theorem grow_nil (w : World) (size : Nat) (P : Nat → Nat → Nat → Prop) : RowOf w (.slice none 0 0) 0 size P := ⟨none, 0, rfl, Nat.le_refl _, Nat.zero_le _, fun _ => rfl, fun h => absurd h (Nat.lt_irrefl _)⟩
theorem gexs_nil (w : World) : ExsIn w [] (.slice none 0 0) := .mk _ _ (fun _ => (.slice none 0 0)) (grow_nil _ _ _) fun i x h => by simp at h
theorem gsts_nil (w : World) : StsIn w [] (.slice none 0 0) := .mk _ _ (fun _ => (.slice none 0 0)) (fun _ => (.slice none 0 0)) (fun _ => (.slice none 0 0)) (fun _ => (.slice none 0 0)) (fun _ => (.slice none 0 0)) (fun _ _ => (.slice none 0 0)) (grow_nil _ _ _) (fun i x h => by simp at h) (fun i x h => by simp at h) (fun i x h => by simp at h) (fun i x h => by simp at h) (fun i x h => by simp at h) (fun i x k y h => by simp at h)
theorem gaw_in {w : World} {ge gs gp gf : Nat} (he : gBlk w ge gcE) (hs : gBlk w gs (gcS ge)) (hp : gBlk w gp gcP) (hf : gBlk w gf (gcF gp gs)) :
    PgIn w pAw (.slice none 0 0) (.slice (some ⟨gf, 0, none⟩) 1 1) (fun _ => .slice (some ⟨gp, 0, none⟩) 1 1) (fun _ => .slice (some ⟨gs, 0, none⟩) 1 1) := by
  have cf := hf.2
  have cp := hp.2
  refine ⟨⟨rfl, none, 0, rfl, Nat.le_refl _, Nat.zero_le _, fun _ => rfl, fun h => absurd h (Nat.lt_irrefl _)⟩, ⟨?_, fun i x hx => ?_, fun i x hx => ?_⟩⟩
  · refine ⟨some ⟨gf, 0, none⟩, 1, rfl, Nat.le_refl _, by decide, by simp, fun _ => ⟨gf, 0, rfl, hf.1, fun i hi x hx => ?_⟩⟩
    obtain ⟨rfl, rfl⟩ := g_one i hx
    exact ⟨cf 0 _ rfl, cf 1 _ rfl, cf 2 _ rfl⟩
  · obtain ⟨rfl, rfl⟩ := g_one i hx
    refine ⟨some ⟨gp, 0, none⟩, 1, rfl, Nat.le_refl _, by decide, by simp, fun _ => ⟨gp, 0, rfl, hp.1, fun i hi x hx => ?_⟩⟩
    obtain ⟨rfl, rfl⟩ := g_one i hx
    exact ⟨cp 0 _ rfl, cp 1 _ rfl, cp 2 _ rfl⟩
  · obtain ⟨rfl, rfl⟩ := g_one i hx
    have h := hs.2
    refine .mk _ _ (fun _ => .slice (some ⟨ge, 0, none⟩) 2 2) (fun _ => (.slice none 0 0)) (fun _ => (.slice none 0 0)) (fun _ => (.slice none 0 0)) (fun _ => (.slice none 0 0)) (fun _ _ => (.slice none 0 0)) ?_ (fun i y h => ?_) (fun i y h => ?_) (fun i y h => ?_) (fun i y h => ?_) (fun i y h => ?_) (fun i y k z h hz => ?_)
    · refine ⟨some ⟨gs, 0, none⟩, 1, rfl, Nat.le_refl _, by decide, by simp, fun _ => ⟨gs, 0, rfl, hs.1, fun i hi y hy => ?_⟩⟩
      obtain ⟨rfl, rfl⟩ := g_one i hy
      exact ⟨h 0 _ rfl, h 1 _ rfl, h 2 _ rfl, h 3 _ rfl, h 4 _ rfl, h 5 _ rfl, h 6 _ rfl, h 7 _ rfl, h 8 _ rfl, h 9 _ rfl, h 10 _ rfl, h 11 _ rfl, h 12 _ rfl, h 13 _ rfl⟩
    all_goals obtain ⟨rfl, rfl⟩ := g_one i h
    · have h := he.2
      refine .mk _ _ (fun _ => (.slice none 0 0)) ?_ (fun i y h => ?_)
      · refine ⟨some ⟨ge, 0, none⟩, 2, rfl, Nat.le_refl _, by decide, by simp, fun _ => ⟨ge, 0, rfl, he.1, fun i hi y hy => ?_⟩⟩
        rcases g_two i hy with ⟨rfl, rfl⟩ | ⟨rfl, rfl⟩
        · exact ⟨h 0 _ rfl, h 1 _ rfl, h 2 _ rfl, h 3 _ rfl⟩
        · exact ⟨h 4 _ rfl, h 5 _ rfl, h 6 _ rfl, h 7 _ rfl⟩
      · rcases g_two i h with ⟨rfl, rfl⟩ | ⟨rfl, rfl⟩ <;> exact gexs_nil w
    · exact gexs_nil w
    · exact gsts_nil w
    · exact gsts_nil w
    · exact grow_nil _ _ _
    · cases hz
def gawG : GFun := ⟨gF, [(0, 3)], 2, 0, [⟨2, 1, 0, 0, 0⟩, ⟨16, 1, 0, 0, 5⟩, ⟨1, 1, 0, 0, 2⟩, ⟨10, 1, 1, 0, 0⟩, ⟨10, 1, 1, 0, 0⟩, ⟨0, 1, 0, 0, 0⟩, ⟨1, 1, 0, 0, 0⟩, ⟨0, 1, 0, 0, 0⟩]⟩
set_option maxRecDepth 100000 in
theorem gaw_fun : gnFun (fun _ => 0) ⟨gF, [⟨gA, 0, 3⟩], [gSt]⟩ = gawG := by kernel_rfl
theorem gaw_rfault : pAw.rfault = (0, 0, 0) := by decide +kernel
theorem gaw_gmod : pAw.gmod = ([], [gawG], (0, 0, 0)) := by
  unfold Pg.gmod
  rw [gaw_rfault, if_neg (by decide)]
  have h : gnAll pAw.funcs 0 (fun _ => 0) = ([gawG], (0, 0, 0)) := by
    simp only [pAw, gnAll, gaw_fun]
    rw [if_neg (by decide)]
  rw [h]
  rfl
end Go.Proofs.YtgobcldecokppaaDoor

namespace Go.Proofs.YtgobcldecokppaaDoor
open Go.RowKit Go.Maps

theorem gawE_eq (w : World) : (Go.binOp .neq 32 (.agg #[.int .i64 0, .int .i64 0, .int .i64 0]) (.agg #[.int .i64 0, .int .i64 0, .int .i64 0])).run Tryd.prog w = .ok (.bool false) w := by kernel_rfl
theorem gawI_eq (w : World) : (Go.binOp .eql 58 (.agg #[.int .i64 16, .int .i64 1, .int .i64 0, .int .i64 0, .int .i64 5]) (.agg #[.int .i64 16, .int .i64 1, .int .i64 0, .int .i64 0, .int .i64 5])).run Tryd.prog w = .ok (.bool true) w := by kernel_rfl
theorem gawR_eq (w : World) : (Go.binOp .eql 58 (.agg #[.int .i64 0, .int .i64 1, .int .i64 0, .int .i64 0, .int .i64 0]) (.agg #[.int .i64 0, .int .i64 1, .int .i64 0, .int .i64 0, .int .i64 0])).run Tryd.prog w = .ok (.bool true) w := by kernel_rfl
theorem gawS_eq (w : World) : (Go.binOp .eql 47 (.agg #[.int .i64 0, .int .i64 3]) (.agg #[.int .i64 0, .int .i64 3])).run Tryd.prog w = .ok (.bool true) w := by kernel_rfl
theorem own_one {w : World} {B : Nat} {e : TypeId} {size n : Nat} {v : Value} {xs : List Value} (h : w.ownsRow B e size v n xs) (hn : 0 < n) : ∃ g cap, v = .slice (some ⟨g, 0, none⟩) n cap ∧ g < w.heap.size ∧ ∀ j u, xs[j]? = some u → w.cell? ⟨g, j, none⟩ = some u := by
  rcases h.2 with ⟨_, e0⟩ | ⟨g, cap, cur, rfl, _⟩
  · omega
  · refine ⟨g, cap, rfl, (World.ownsRow.lt h g rfl).2, fun j u hu => ?_⟩
    have h1 := World.ownsRow.cells h (g := g) rfl j u hu
    have ha : (⟨g, 0, none⟩ : Addr).add j = ⟨g, j, none⟩ := by unfold Addr.add; split <;> simp_all
    rw [← ha]
    exact h1
theorem gaw_rng : pAw.rng := by
  intro f hf
  simp [pAw] at hf
  subst hf
  refine ⟨?_, fun x hx => ?_⟩
  · simp only [St.rngs, St.rng, gSt, gEx, gE0, Ex.rng, Ex.rngs, Cs.rngs, in64]
    decide
  · simp at hx
    subst hx
    unfold in64
    decide
set_option maxRecDepth 100000 in
set_option maxHeartbeats 4000000 in
theorem gnAwake_any (W : World) : Calls Tryd.prog 4 #[] W (Gives (.bool true) W) := by
  obtain ⟨s, hs⟩ : ∃ s, s = W.heap.size := ⟨_, rfl⟩
  obtain ⟨W1, hW1⟩ : ∃ w : World, w = W.alloc (.cells #[.int .i64 2, .int .i64 0, .string gA, .slice none 0 0] 53) := ⟨_, rfl⟩
  obtain ⟨W2, hW2⟩ : ∃ w : World, w = W1.alloc (.cells #[.int .i64 1, .int .i64 2, .string ⟨#[]⟩, .slice none 0 0] 53) := ⟨_, rfl⟩
  obtain ⟨W3, hW3⟩ : ∃ w : World, w = W2.alloc (.cells gcP 49) := ⟨_, rfl⟩
  obtain ⟨W4, hW4⟩ : ∃ w : World, w = W3.alloc (.cells gcE 53) := ⟨_, rfl⟩
  obtain ⟨W5, hW5⟩ : ∃ w : World, w = W4.alloc (.cells (gcS (s + 3)) 56) := ⟨_, rfl⟩
  obtain ⟨W6, hW6⟩ : ∃ w : World, w = W5.alloc (.cells (gcF (s + 2) (s + 4)) 40) := ⟨_, rfl⟩
  obtain ⟨W7, hW7⟩ : ∃ w : World, w = W6.alloc (.cells #[.slice none 0 0, .slice (some ⟨s + 5, 0, none⟩) 1 1] 25) := ⟨_, rfl⟩
  have z1 : W1.heap.size = s + 1 := by rw [hW1, hs]; simp
  have z2 : W2.heap.size = s + 2 := by rw [hW2]; simp [z1]
  have z3 : W3.heap.size = s + 3 := by rw [hW3]; simp [z2]
  have z4 : W4.heap.size = s + 4 := by rw [hW4]; simp [z3]
  have z5 : W5.heap.size = s + 5 := by rw [hW5]; simp [z4]
  have z6 : W6.heap.size = s + 6 := by rw [hW6]; simp [z5]
  have b1 : Below W.heap.size W W1 := by rw [hW1]; exact (Below.refl _ _).alloc (Nat.le_refl _) _
  have b2 : Below W1.heap.size W1 W2 := by rw [hW2]; exact (Below.refl _ _).alloc (Nat.le_refl _) _
  have b3 : Below W2.heap.size W2 W3 := by rw [hW3]; exact (Below.refl _ _).alloc (Nat.le_refl _) _
  have b4 : Below W3.heap.size W3 W4 := by rw [hW4]; exact (Below.refl _ _).alloc (Nat.le_refl _) _
  have b5 : Below W4.heap.size W4 W5 := by rw [hW5]; exact (Below.refl _ _).alloc (Nat.le_refl _) _
  have b6 : Below W5.heap.size W5 W6 := by rw [hW6]; exact (Below.refl _ _).alloc (Nat.le_refl _) _
  have b7 : Below W6.heap.size W6 W7 := by rw [hW7]; exact (Below.refl _ _).alloc (Nat.le_refl _) _
  have b67 := b6.trans (b7.mono b6.size)
  have b57 := b5.trans (b67.mono b5.size)
  have b47 := b4.trans (b57.mono b4.size)
  have b37 := b3.trans (b47.mono b3.size)
  have b07 : Below W.heap.size W W7 := b1.trans ((b2.trans (b37.mono b2.size)).mono b1.size)
  have hPg : PgIn W7 pAw (.slice none 0 0) (.slice (some ⟨s + 5, 0, none⟩) 1 1) (fun _ => .slice (some ⟨s + 2, 0, none⟩) 1 1) (fun _ => .slice (some ⟨s + 4, 0, none⟩) 1 1) := by
    have k3 : gBlk W3 (s + 2) gcP := by rw [hW3]; exact .made z2.symm
    have k4 : gBlk W4 (s + 3) gcE := by rw [hW4]; exact .made z3.symm
    have k5 : gBlk W5 (s + 4) (gcS (s + 3)) := by rw [hW5]; exact .made z4.symm
    have k6 : gBlk W6 (s + 5) (gcF (s + 2) (s + 4)) := by rw [hW6]; exact .made z5.symm
    exact gaw_in (k4.later b57 k4.1) (k5.later b67 k5.1) (k3.later b47 k3.1) (k6.later b7 k6.1)
  have p0 : W7.cell? ⟨s + 6, 0, none⟩ = some (.slice none 0 0) := by rw [hW7]; exact World.cell?_alloc_at _ _ _ _ z6.symm
  have p1 : W7.cell? ⟨s + 6, 1, none⟩ = some (.slice (some ⟨s + 5, 0, none⟩) 1 1) := by rw [hW7]; exact World.cell?_alloc_at _ _ _ _ z6.symm
  have H7 := Lib.hid (And.intro hPg b07)
  have HW := Lib.hid (And.intro hs (And.intro hW1 (And.intro hW2 (And.intro hW3 (And.intro hW4 (And.intro hW5 (And.intro hW6 hW7)))))))
  clear z1 z2 z3 z4 z5 z6 b1 b2 b3 b4 b5 b6 b7 b67 b57 b47 b37 b07 hPg hs hW1 hW2 hW3 hW4 hW5 hW6 hW7
  go_enter Tryd.func4, Tryd.ntmps4
  go_upto_region 4 with (fail)
  have hh := HW.out
  unfold gcP gcE gcS gcF gA gF at hh
  rw [← hh.1, show s + 1 + 1 + 1 + 1 + 1 + 1 = s + 6 by omega, show s + 1 + 1 + 1 + 1 + 1 = s + 5 by omega, show s + 1 + 1 + 1 + 1 = s + 4 by omega, show s + 1 + 1 + 1 = s + 3 by omega, show s + 1 + 1 = s + 2 by omega]
  rw [← hh.2.1, ← hh.2.2.1, ← hh.2.2.2.1, ← hh.2.2.2.2.1, ← hh.2.2.2.2.2.1, ← hh.2.2.2.2.2.2.1, ← hh.2.2.2.2.2.2.2]
  clear hh
  have hcall := gmod_any pAw (.slice none 0 0) (.slice (some ⟨s + 5, 0, none⟩) 1 1) _ _ W7 H7.out.1 gaw_rng
  rw [gaw_gmod] at hcall
  unfold pgV fltV at hcall
  have Hcall := Lib.hid hcall
  clear hcall
  go_wp2_with fail
  refine Hcall.out.mono ?_
  rintro E w8 ⟨vt, vm, rfl, hb8, l, hl, hG⟩
  obtain ⟨x, rfl, hx⟩ : ∃ x, l = [x] ∧ x.g = gawG := by
    cases l with
    | nil => simp at hl
    | cons y t => cases t with
      | nil => simp at hl; exact ⟨y, rfl, hl⟩
      | cons z t => simp at hl
  obtain ⟨ta, tn, tc, rfl⟩ := row_shape hG.thr
  obtain ⟨gm, cm, rfl, qm, km⟩ := own_one hG.row (by simp)
  have hxi := (hG.each x (by simp)).1
  have hco := hxi.code
  have hpa := hxi.params
  rw [hx] at hco hpa
  obtain ⟨gc, cc, hvc, qc, kc⟩ := own_one hco (by decide)
  obtain ⟨gp, cp, hvp, qp, kp⟩ := own_one hpa (by decide)
  have m0 : w8.cell? ⟨gm, 0, none⟩ = some (.string x.g.name) := km 0 _ rfl
  have m1 : w8.cell? ⟨gm, 1, none⟩ = some x.vp := km 1 _ rfl
  have m2 : w8.cell? ⟨gm, 2, none⟩ = some (.int .i64 x.g.regs) := km 2 _ rfl
  have m3 : w8.cell? ⟨gm, 3, none⟩ = some (.int .i64 x.g.words) := km 3 _ rfl
  have m4 : w8.cell? ⟨gm, 4, none⟩ = some x.vc := km 4 _ rfl
  rw [hx] at m0 m2 m3
  rw [hvp] at m1
  rw [hvc] at m4
  have n0 : w8.cell? ⟨gm, 0, none⟩ = some (.string ⟨#[102]⟩) := m0
  have n2 : w8.cell? ⟨gm, 2, none⟩ = some (.int .i64 2) := m2
  have n3 : w8.cell? ⟨gm, 3, none⟩ = some (.int .i64 0) := m3
  have n1 : w8.cell? ⟨gm, 1, none⟩ = some (.slice (some ⟨gp, 0, none⟩) 1 cp) := m1
  have n4 : w8.cell? ⟨gm, 4, none⟩ = some (.slice (some ⟨gc, 0, none⟩) 8 cc) := m4
  clear m0 m1 m2 m3 m4
  have c5 : w8.cell? ⟨gc, 5, none⟩ = some (.int .i64 16) := kc 5 _ rfl
  have c6 : w8.cell? ⟨gc, 6, none⟩ = some (.int .i64 1) := kc 6 _ rfl
  have c7 : w8.cell? ⟨gc, 7, none⟩ = some (.int .i64 0) := kc 7 _ rfl
  have c8 : w8.cell? ⟨gc, 8, none⟩ = some (.int .i64 0) := kc 8 _ rfl
  have c9 : w8.cell? ⟨gc, 9, none⟩ = some (.int .i64 5) := kc 9 _ rfl
  have c35 : w8.cell? ⟨gc, 35, none⟩ = some (.int .i64 0) := kc 35 _ rfl
  have c36 : w8.cell? ⟨gc, 36, none⟩ = some (.int .i64 1) := kc 36 _ rfl
  have c37 : w8.cell? ⟨gc, 37, none⟩ = some (.int .i64 0) := kc 37 _ rfl
  have c38 : w8.cell? ⟨gc, 38, none⟩ = some (.int .i64 0) := kc 38 _ rfl
  have c39 : w8.cell? ⟨gc, 39, none⟩ = some (.int .i64 0) := kc 39 _ rfl
  have r0 : w8.cell? ⟨gp, 0, none⟩ = some (.int .i64 0) := kp 0 _ rfl
  have r1 : w8.cell? ⟨gp, 1, none⟩ = some (.int .i64 3) := kp 1 _ rfl
  have hb08 := Lib.hid (H7.out.2.trans (hb8.mono H7.out.2.size))
  have hE := gawE_eq
  have hI := gawI_eq
  have hR := gawR_eq
  have hS := gawS_eq
  obtain ⟨V1, hV1⟩ : ∃ w : World, w = w8.alloc (.cells #[.slice ta tn tc, .slice (some ⟨gm, 0, none⟩) 1 cm] 29) := ⟨_, rfl⟩
  obtain ⟨V2, hV2⟩ : ∃ w : World, w = V1.alloc (.cells #[.int .i64 0, .int .i64 0, .int .i64 0] 32) := ⟨_, rfl⟩
  obtain ⟨V3, hV3⟩ : ∃ w : World, w = V2.alloc (.cells #[.string ⟨#[102]⟩, .slice (some ⟨gp, 0, none⟩) 1 cp, .int .i64 2, .int .i64 0, .slice (some ⟨gc, 0, none⟩) 8 cc] 44) := ⟨_, rfl⟩
  obtain ⟨P, hP⟩ : ∃ k, k = w8.heap.size + 1 + 1 := ⟨_, rfl⟩
  have a1 : Below w8.heap.size w8 V1 := by rw [hV1]; exact (Below.refl _ _).alloc (Nat.le_refl _) _
  have a2 : Below V1.heap.size V1 V2 := by rw [hV2]; exact (Below.refl _ _).alloc (Nat.le_refl _) _
  have a3 : Below V2.heap.size V2 V3 := by rw [hV3]; exact (Below.refl _ _).alloc (Nat.le_refl _) _
  have a13 : Below w8.heap.size w8 V3 := a1.trans ((a2.trans (a3.mono a2.size)).mono a1.size)
  have hPs : P = V2.heap.size := by rw [hP, hV2, hV1]; simp
  have vgc5 : V3.cell? ⟨gc, 5, none⟩ = some (.int .i64 16) := (a13.cell (p := ⟨gc, 5, none⟩) qc).trans c5
  have vgc6 : V3.cell? ⟨gc, 6, none⟩ = some (.int .i64 1) := (a13.cell (p := ⟨gc, 6, none⟩) qc).trans c6
  have vgc7 : V3.cell? ⟨gc, 7, none⟩ = some (.int .i64 0) := (a13.cell (p := ⟨gc, 7, none⟩) qc).trans c7
  have vgc8 : V3.cell? ⟨gc, 8, none⟩ = some (.int .i64 0) := (a13.cell (p := ⟨gc, 8, none⟩) qc).trans c8
  have vgc9 : V3.cell? ⟨gc, 9, none⟩ = some (.int .i64 5) := (a13.cell (p := ⟨gc, 9, none⟩) qc).trans c9
  have vgc35 : V3.cell? ⟨gc, 35, none⟩ = some (.int .i64 0) := (a13.cell (p := ⟨gc, 35, none⟩) qc).trans c35
  have vgc36 : V3.cell? ⟨gc, 36, none⟩ = some (.int .i64 1) := (a13.cell (p := ⟨gc, 36, none⟩) qc).trans c36
  have vgc37 : V3.cell? ⟨gc, 37, none⟩ = some (.int .i64 0) := (a13.cell (p := ⟨gc, 37, none⟩) qc).trans c37
  have vgc38 : V3.cell? ⟨gc, 38, none⟩ = some (.int .i64 0) := (a13.cell (p := ⟨gc, 38, none⟩) qc).trans c38
  have vgc39 : V3.cell? ⟨gc, 39, none⟩ = some (.int .i64 0) := (a13.cell (p := ⟨gc, 39, none⟩) qc).trans c39
  have vgp0 : V3.cell? ⟨gp, 0, none⟩ = some (.int .i64 0) := (a13.cell (p := ⟨gp, 0, none⟩) qp).trans r0
  have vgp1 : V3.cell? ⟨gp, 1, none⟩ = some (.int .i64 3) := (a13.cell (p := ⟨gp, 1, none⟩) qp).trans r1
  have vP0 : V3.cell? ⟨P, 0, none⟩ = some (.string ⟨#[102]⟩) := by rw [hV3]; exact World.cell?_alloc_at _ _ _ _ hPs
  have vP1 : V3.cell? ⟨P, 1, none⟩ = some (.slice (some ⟨gp, 0, none⟩) 1 cp) := by rw [hV3]; exact World.cell?_alloc_at _ _ _ _ hPs
  have vP2 : V3.cell? ⟨P, 2, none⟩ = some (.int .i64 2) := by rw [hV3]; exact World.cell?_alloc_at _ _ _ _ hPs
  have vP3 : V3.cell? ⟨P, 3, none⟩ = some (.int .i64 0) := by rw [hV3]; exact World.cell?_alloc_at _ _ _ _ hPs
  have vP4 : V3.cell? ⟨P, 4, none⟩ = some (.slice (some ⟨gc, 0, none⟩) 8 cc) := by rw [hV3]; exact World.cell?_alloc_at _ _ _ _ hPs
  have Hend := Lib.hid (And.intro a13 (And.intro hV1 (And.intro hV2 (And.intro hV3 hP))))
  clear a1 a2 a3 a13 hPs hV1 hV2 hV3 hP hl hG hxi hco hpa hx hvc hvp km kc kp hb8 Hcall p0 p1 c5 c6 c7 c8 c9 c35 c36 c37 c38 c39 r0 r1
  go_upto_region 8 with (fail)
  rw [← Hend.out.2.2.2.2, ← Hend.out.2.1, ← Hend.out.2.2.1, ← Hend.out.2.2.2.1]
  go_wp2_with fail
  go_ret
  exact ⟨rfl, hb08.out.trans (Hend.out.1.mono hb08.out.size)⟩
end Go.Proofs.YtgobcldecokppaaDoor
