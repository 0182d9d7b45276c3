/- R2.Check: what is wrong first with a program. -/
import Derived.Test.YtneibcpgengdnaaTrRHead
import Derived.StillTailTactics
namespace Go.Proofs.Ytneibcpgengdnaa
open Go.RowKit

abbrev Flt := Int × Int × Int
def fltV (t : Flt) : Value := .agg #[.int .i64 t.1, .int .i64 t.2.1, .int .i64 t.2.2]
def Fn.fault (f : Fn) (i : Nat) : Flt := if f.face ≠ 0 then (f.face, (i : Int), 0) else if (St.chks f.body 1).2 ≠ 0 then ((St.chks f.body 1).2, (i : Int), ((St.chks f.body 1).1 : Int)) else (0, 0, 0)
def Fn.faults : List Fn → Nat → Flt
  | [], _ => (0, 0, 0)
  | f :: l, i => if (f.fault i).1 ≠ 0 then f.fault i else Fn.faults l (i + 1)
/-- What is wrong first with a program's form. -/
def Pg.fault (p : Pg) : Flt := if p.headErr ≠ 0 then (p.headErr, 0, 0) else Fn.faults p.funcs 0
theorem Fn.faults_hit {l : List Fn} {i k : Nat} {x : Fn} (h : l[i]? = some x) (hn : ∀ j y, j < i → l[j]? = some y → (y.fault (k + j)).1 = 0) (he : (x.fault (k + i)).1 ≠ 0) : Fn.faults l k = x.fault (k + i) := by
  induction l generalizing i k with
  | nil => simp at h
  | cons y l ih =>
    cases i with
    | zero => simp at h; subst h; simp only [Fn.faults, Nat.add_zero]; exact if_pos he
    | succ i =>
      have h0 := hn 0 y (by omega) rfl
      simp only [Fn.faults, Nat.add_zero] at h0 ⊢
      rw [if_neg (by rw [h0]; decide)]
      have := ih (i := i) (k := k + 1) (by simpa using h) (fun j z hj hz => by rw [Nat.add_assoc, Nat.add_comm 1 j]; exact hn (j + 1) z (by omega) (by simpa using hz)) (by rw [Nat.add_assoc, Nat.add_comm 1 i]; exact he)
      rw [this, Nat.add_assoc, Nat.add_comm 1 i]
theorem Fn.faults_none {l : List Fn} {k : Nat} (hn : ∀ (j : Nat) y, l[j]? = some y → (y.fault (k + j)).1 = 0) : Fn.faults l k = (0, 0, 0) := by
  induction l generalizing k with
  | nil => rfl
  | cons y l ih =>
    have h0 := hn 0 y rfl
    simp only [Nat.add_zero] at h0
    simp only [Fn.faults]
    rw [if_neg (by rw [h0]; decide)]
    exact ih fun j z hz => by rw [Nat.add_assoc, Nat.add_comm 1 j]; exact hn (j + 1) z (by simpa using hz)
theorem Pg.head_ok {p : Pg} (h : p.headErr = 0) : p.funcs.length ≤ 32 ∧ Fn.count p.funcs ≤ 4096 := by
  unfold Pg.headErr at h
  split at h
  · omega
  split at h
  · omega
  split at h
  · omega
  split at h
  · omega
  rename_i hn
  unfold upto at hn
  constructor <;> omega
/-- A Check's own blocks: its program, its answer. -/
structure CkAt (w : World) (B : Nat) (vw vf : Value) : Prop where
  c0 : w.cell? ⟨B, 0, none⟩ = some vw
  c1 : w.cell? ⟨B, 1, none⟩ = some vf
  r0 : w.cell? ⟨B + 1, 0, none⟩ = some (.int .i64 0)
  r1 : w.cell? ⟨B + 1, 1, none⟩ = some (.int .i64 0)
  r2 : w.cell? ⟨B + 1, 2, none⟩ = some (.int .i64 0)
  z0 : w.frozen? ⟨B + 1, 0, none⟩ = false
  z1 : w.frozen? ⟨B + 1, 1, none⟩ = false
  z2 : w.frozen? ⟨B + 1, 2, none⟩ = false
theorem CkAt.later {w w' : World} {B : Nat} {vw vf : Value} (h : CkAt w B vw vf) (hb : Below w.heap.size w w') : CkAt w' B vw vf :=
  have q1 := block_lt_of_cell h.c0
  have q2 := block_lt_of_cell h.r0
  ⟨(hb.cell (p := ⟨B, 0, none⟩) q1).trans h.c0, (hb.cell (p := ⟨B, 1, none⟩) q1).trans h.c1, (hb.cell (p := ⟨B + 1, 0, none⟩) q2).trans h.r0, (hb.cell (p := ⟨B + 1, 1, none⟩) q2).trans h.r1, (hb.cell (p := ⟨B + 1, 2, none⟩) q2).trans h.r2,
    (hb.frozen (p := ⟨B + 1, 0, none⟩) q2).trans h.z0, (hb.frozen (p := ⟨B + 1, 1, none⟩) q2).trans h.z1, (hb.frozen (p := ⟨B + 1, 2, none⟩) q2).trans h.z2⟩
/-- An answer is written. -/
theorem CkAt.answer {w : World} {B : Nat} {vw vf : Value} (h : CkAt w B vw vf) (t : Flt) : ∀ w9, w9 = ((w.setCell ⟨B + 1, 0, none⟩ (.int .i64 t.1)).setCell ⟨B + 1, 1, none⟩ (.int .i64 t.2.1)).setCell ⟨B + 1, 2, none⟩ (.int .i64 t.2.2) →
    w9.cell? ⟨B + 1, 0, none⟩ = some (.int .i64 t.1) ∧ w9.cell? ⟨B + 1, 1, none⟩ = some (.int .i64 t.2.1) ∧ w9.cell? ⟨B + 1, 2, none⟩ = some (.int .i64 t.2.2) ∧ Oth (· = B + 1) w w9 := by
  rintro w9 rfl
  refine ⟨?_, ?_, World.cell?_setCell_same' _ _ _ ?_, (((Oth.refl (· = B + 1) w).set (p := ⟨B + 1, 0, none⟩) rfl _).set (p := ⟨B + 1, 1, none⟩) rfl _).set (p := ⟨B + 1, 2, none⟩) rfl _⟩
  · rw [World.cell?_setCell_other _ _ _ _ (by simp), World.cell?_setCell_other _ _ _ _ (by simp)]
    exact World.cell?_setCell_same' _ _ _ (by rw [h.r0]; rfl)
  · rw [World.cell?_setCell_other _ _ _ _ (by simp)]
    exact World.cell?_setCell_same' _ _ _ (by rw [World.cell?_setCell_other _ _ _ _ (by simp), h.r1]; rfl)
  · rw [World.cell?_setCell_other _ _ _ _ (by simp), World.cell?_setCell_other _ _ _ _ (by simp), h.r2]; rfl
set_option maxRecDepth 100000 in
set_option maxHeartbeats 2000000 in
theorem rcheck_any (p : Pg) (vw vf : Value) (vp vb : Nat → Value) (W : World) (h : PgIn W p vw vf vp vb) : Calls Try.prog 26 #[pgV vw vf] W (Gives (fltV p.fault) W) := by
  have HP := Lib.hid h
  obtain ⟨hw, hr, hpp, hbb⟩ := h
  obtain ⟨aw, cw, rfl, hwc, hwc2⟩ := hw.row.form
  obtain ⟨a, cap, rfl, hncap, hcap⟩ := hr.form
  obtain ⟨n, hn⟩ : ∃ n, n = p.funcs.length := ⟨_, rfl⟩
  obtain ⟨m, hm⟩ : ∃ m, m = p.widen.length := ⟨_, rfl⟩
  have hn62 : n ≤ 9223372036854775807 := by have : maxLen ≤ 9223372036854775807 := by decide
                                            omega
  have Hl := Lib.hid (And.intro hm hn)
  have Hf := Lib.hid (And.intro hpp hbb)
  have Hrow : Hid (RowOf W (.slice a n cap) p.funcs.length 3 (fun b o i => ∀ x, p.funcs[i]? = some x → FnCells W b o x (vp i) (vb i))) := by rw [hn]; exact hr
  rw [← hn, ← hm] at HP
  rw [← hn, ← hm]
  rw [← hn] at hncap
  obtain ⟨W1, hW1⟩ : ∃ W1, W1 = (W.alloc (.cells #[.slice aw m cw, .slice a n cap] 26)).alloc (.cells #[.int .i64 0, .int .i64 0, .int .i64 0] 29) := ⟨_, rfl⟩
  have hs1 : W1.heap.size = W.heap.size + 2 := by rw [hW1]; simp
  have hb1 : Below W.heap.size W W1 := by rw [hW1]; exact ((Below.refl _ _).alloc (Nat.le_refl _) _).alloc (by (try simp only [World.size_alloc]); (try simp only [size_set]); omega) _
  have hk1 : CkAt W1 W.heap.size (.slice aw m cw) (.slice a n cap) := by
    have q : (W.alloc (.cells #[.slice aw m cw, .slice a n cap] 26)).heap.size = W.heap.size + 1 := by simp
    have k : ∀ j, (((W.alloc (.cells #[.slice aw m cw, .slice a n cap] 26)).alloc (.cells #[.int .i64 0, .int .i64 0, .int .i64 0] 29)).cell? ⟨W.heap.size, j, none⟩) = (W.alloc (.cells #[.slice aw m cw, .slice a n cap] 26)).cell? ⟨W.heap.size, j, none⟩ :=
      fun j => ((Below.refl _ _).alloc (Nat.le_refl _) _).cell (p := ⟨W.heap.size, j, none⟩) (by show W.heap.size < _; omega)
    rw [hW1]
    exact ⟨(k 0).trans (World.cell?_alloc_at _ _ _ _ rfl), (k 1).trans (World.cell?_alloc_at _ _ _ _ rfl), World.cell?_alloc_at _ _ _ _ (by rw [q]), World.cell?_alloc_at _ _ _ _ (by rw [q]), World.cell?_alloc_at _ _ _ _ (by rw [q]),
      World.frozen?_alloc_at _ _ _ _ (by rw [q]), World.frozen?_alloc_at _ _ _ _ (by rw [q]), World.frozen?_alloc_at _ _ _ _ (by rw [q])⟩
  have HW1 := Lib.hid hW1
  obtain ⟨B, hB⟩ : ∃ B, B = W.heap.size := ⟨_, rfl⟩
  have hB0 : B = W.heap.size := hB
  have HB := Lib.hid hB
  unfold pgV
  clear hw hr hpp hbb hn hm hW1 hB
  go_enter Try.func26, Try.ntmps26
  go_upto_region 1 with (fail)
  rw [← HW1.out, ← HB.out]
  rw [← hB0] at hk1
  clear hB0
  have H1 := Lib.hid (And.intro hb1 (And.intro hk1 hs1))
  clear hb1 hs1
  obtain ⟨c0, c1, r0, r1, r2, z0, z1, z2⟩ := hk1
  go_wp2_with fail
  refine (rhead_any p (.slice aw m cw) (.slice a n cap) vp vb W1 (PgIn.later HP.out H1.out.1)).mono ?_
  rintro e w2 ⟨rfl, hb2⟩
  have HK2 := Lib.hid (H1.out.2.1.later hb2)
  have HB2 := Lib.hid (H1.out.1.trans (hb2.mono H1.out.1.size))
  clear hb2 c0 c1 r0 r1 r2 z0 z1 z2
  obtain ⟨c0, c1, r0, r1, r2, z0, z1, z2⟩ := HK2.out
  have q2 := block_lt_of_cell r0
  obtain ⟨he, hhe⟩ : ∃ z, z = p.headErr := ⟨_, rfl⟩
  rw [← hhe]
  have Hhe := Lib.hid hhe
  clear hhe
  by_cases h0 : he = 0
  · have Hok : Hid (p.funcs.length ≤ 32 ∧ Fn.count p.funcs ≤ 4096) := Pg.head_ok (Hhe.out.symm.trans h0)
    have Hfl : Hid (p.fault = Fn.faults p.funcs 0) := by show _ = _; unfold Pg.fault; rw [← Hhe.out, if_neg (by rw [h0]; decide)]
    subst h0
    go_wp2_with fail
    clear c0 c1 r0 r1 r2 z0 z1 z2
    go_loopg [4] n (fun g iv wx => ∃ i : Nat, g = n - i ∧ iv = .int .i64 (i : Int) ∧ i ≤ n ∧ (∀ j y, j < i → p.funcs[j]? = some y → (y.fault (0 + j)).1 = 0) ∧ CkAt wx B (.slice aw m cw) (.slice a n cap) ∧ Below W.heap.size W wx)
    case atStart => exact ⟨0, rfl, rfl, Nat.zero_le _, fun j y h => by omega, HK2.out, HB2.out⟩
    case round =>
      obtain ⟨i, hg, rfl, hi, hp, hC, hB⟩ := hrel
      have HK := Lib.hid (And.intro hp (And.intro hC hB))
      have Hg := Lib.hid hg
      obtain ⟨c0, c1, r0, r1, r2, z0, z1, z2⟩ := hC
      have q3 := block_lt_of_cell r0
      clear hp hg
      by_cases hin : i < n
      · obtain ⟨x, hx⟩ : ∃ x, p.funcs[i]? = some x := ⟨_, List.getElem?_eq_getElem (by rw [← Hl.out.2]; exact hin)⟩
        obtain ⟨b, off, rfl, hb, hP⟩ := Hrow.out.at (i := i) (by rw [← Hl.out.2]; exact hin)
        have hfc := (hP x hx).later hB hb
        have hrow := Hf.out.1 i x hx
        have hsts := Hf.out.2 i x hx
        obtain ⟨ap, cp, hvp, -⟩ := hrow.form
        obtain ⟨ab, cb, hvb, -⟩ := hsts.form
        have hchk := rchks_any _ _ _ hsts
        obtain ⟨np, hnp⟩ : ∃ n, n = x.params.length := ⟨_, rfl⟩
        obtain ⟨nb, hnb⟩ : ∃ n, n = x.body.length := ⟨_, rfl⟩
        rw [hvb, ← hnb] at hchk
        rw [hvp, hvb, ← hnp, ← hnb] at hfc
        have Hrp : Hid (RowOf W (.slice ap np cp) x.params.length 3 (fun b o k => ∀ y, x.params[k]? = some y → PmAt W b o y)) := by rw [hvp, ← hnp] at hrow; rw [← hnp]; exact hrow
        have Hfc := Lib.hid hfc
        have HX := Lib.hid (And.intro hx hchk)
        obtain ⟨i0, i1, i2⟩ := hfc
        obtain ⟨fc, hfe⟩ : ∃ z, z = x.face := ⟨_, rfl⟩
        have Hfe := Lib.hid hfe
        have q4 := block_lt_of_cell i0
        clear hP hx hrow hsts hchk hvp hvb hnp hnb hB
        go_wp2_with fail
        refine (face_any x (.slice ap np cp) ab nb cb wr (Hrp.out.imp HK.out.2.2.size fun b o k hbl _ hp y hy => (hp y hy).later HK.out.2.2 hbl)).mono ?_
        rintro e w3 ⟨rfl, hb3⟩
        rw [← hfe]
        have HK3 := Lib.hid (HK.out.2.1.later hb3)
        have HB3 := Lib.hid (HK.out.2.2.trans (hb3.mono HK.out.2.2.size))
        have Hfc3 := Lib.hid (Hfc.out.later hb3 q4)
        have q5 := hb3.size
        clear hb3 hfe i0 i1 i2 c0 c1 r0 r1 r2 z0 z1 z2
        obtain ⟨c0, c1, r0, r1, r2, z0, z1, z2⟩ := HK3.out
        have q6 := block_lt_of_cell r0
        by_cases hf0 : fc = 0
        · have Hfe0 : Hid (x.face = 0) := Hfe.out.symm.trans hf0
          subst hf0
          go_upto_region 11 with (fail)
          obtain ⟨W4, hW4⟩ : ∃ W4, W4 = w3.alloc (.cells #[.int .i64 0, .int .i64 0] 99) := ⟨_, rfl⟩
          obtain ⟨c, hc⟩ : ∃ c, c = w3.heap.size := ⟨_, rfl⟩
          have hs4 : W4.heap.size = w3.heap.size + 1 := by rw [hW4]; simp
          have hb4 : Below w3.heap.size w3 W4 := by rw [hW4]; exact (Below.refl _ _).alloc (Nat.le_refl _) _
          have hK4 : KAt W4 c 0 0 := by rw [hW4, hc]; exact ⟨World.cell?_alloc_at _ _ _ _ rfl, World.cell?_alloc_at _ _ _ _ rfl, World.frozen?_alloc_at _ _ _ _ rfl, World.frozen?_alloc_at _ _ _ _ rfl⟩
          rw [← hW4, ← hc]
          have HK4 := Lib.hid (And.intro hK4 (HK3.out.later hb4))
          have HB4 := Lib.hid (HB3.out.trans (hb4.mono HB3.out.size))
          have hfc4 := Hfc3.out.later hb4 (by omega)
          have Hc := Lib.hid (And.intro hc hs4)
          have q7 : W.heap.size ≤ c := by have := HB3.out.size; omega
          have q8 : B + 1 < c := by omega
          clear hW4 hb4 hK4 hc hs4 c0 c1 r0 r1 r2 z0 z1 z2
          obtain ⟨c0, c1, r0, r1, r2, z0, z1, z2⟩ := HK4.out.2
          obtain ⟨i0, i1, i2⟩ := hfc4
          go_wp2_with fail
          refine (HX.out.2 W4 c 0 0 1 HB4.out q7 HK4.out.1 (by omega) (by have h1 := Fn.count_take HX.out.1; have h2 := Fn.count_le (l := p.funcs) (i + 1); have := Hok.out.2; omega) (by omega) (by omega) (by omega)).mono ?_
          rintro e w5 ⟨rfl, hK5, hO5⟩
          rw [goN_zero, keepE_zero] at hK5
          obtain ⟨ee, hee⟩ : ∃ z, z = (St.chks x.body 1).2 := ⟨_, rfl⟩
          obtain ⟨ea, hea⟩ : ∃ z : Int, z = ((St.chks x.body 1).1 : Int) := ⟨_, rfl⟩
          rw [← hee, ← hea, Int.zero_add] at hK5
          have Hee := Lib.hid (And.intro hee hea)
          have hC5 : CkAt w5 B (.slice aw m cw) (.slice (some ⟨b, off, none⟩) n cap) := by
            have k := fun blk j (hbl : blk < c) => hO5.cell (p := ⟨blk, j, none⟩) (by show blk < _; have := HK4.out.1.lt; omega) (by show ¬ blk = c; omega)
            have kf := fun blk j (hbl : blk < c) => hO5.frozen (p := ⟨blk, j, none⟩) (by show blk < _; have := HK4.out.1.lt; omega) (by show ¬ blk = c; omega)
            have h := HK4.out.2
            exact ⟨(k _ _ (by omega)).trans h.c0, (k _ _ (by omega)).trans h.c1, (k _ _ (by omega)).trans h.r0, (k _ _ (by omega)).trans h.r1, (k _ _ (by omega)).trans h.r2, (kf _ _ (by omega)).trans h.z0, (kf _ _ (by omega)).trans h.z1, (kf _ _ (by omega)).trans h.z2⟩
          have HK5 := Lib.hid (And.intro hK5 hC5)
          have HB5 : Hid (Below W.heap.size W w5) := HB4.out.trans (hO5.below HB4.out.size fun _ e => by omega)
          have k0 := hK5.c0
          have k1 := hK5.c1
          clear hee hea hK5 hC5 hO5 i0 i1 i2 c0 c1 r0 r1 r2 z0 z1 z2
          obtain ⟨c0, c1, r0, r1, r2, z0, z1, z2⟩ := HK5.out.2
          have q9 := block_lt_of_cell r0
          by_cases he0 : ee = 0
          · have Hnext : Hid ((x.fault (0 + i)).1 = 0) := by
              show _ = _
              unfold Fn.fault
              rw [if_neg (by rw [Hfe0.out]; decide), if_neg (by rw [← Hee.out.1, he0]; decide)]
            subst he0
            go_wp2_with fail
            go_roundg (n - (i + 1))
            case measure => have := Hg.out; omega
            case rel => exact ⟨i + 1, rfl, by go_num, hin, fun j y hj hy => by
                by_cases e : j = i
                · subst e
                  rw [HX.out.1] at hy
                  cases hy; exact Hnext.out
                · exact HK.out.1 j y (by omega) hy, HK5.out.2, HB5.out⟩
          · have hq : (ee != 0) = true := by simp [he0]
            have Hres : Hid (p.fault = (ee, (i : Int), ea)) := by
              show _ = _
              have h : x.fault (0 + i) = (ee, (i : Int), ea) := by unfold Fn.fault; rw [if_neg (by rw [Hfe0.out]; decide), ← Hee.out.1, if_pos he0, Nat.zero_add, Hee.out.2]
              rw [Hfl.out, Fn.faults_hit HX.out.1 HK.out.1 (by rw [h]; exact he0), h]
            go_upto_region 13 with (fail)
            go_still_tail 10, (by kernel_rfl)
            change wpList _ _ _ _ _ w5.drew
            have hbd : Below w5.heap.size w5 w5.drew := (Below.refl _ _).drew
            have HKd := Lib.hid (HK5.out.2.later hbd)
            have HBd := Lib.hid (HB5.out.trans (hbd.mono HB5.out.size))
            obtain ⟨w6, hw6⟩ : ∃ w6, w6 = w5.drew := ⟨_, rfl⟩
            rw [← hw6] at HKd HBd ⊢
            clear hbd hw6 c0 c1 r0 r1 r2 z0 z1 z2 k0 k1
            obtain ⟨c0, c1, r0, r1, r2, z0, z1, z2⟩ := HKd.out
            have q10 := block_lt_of_cell r0
            go_wp2_with fail
            obtain ⟨w9, hw9⟩ : ∃ w9, w9 = ((w6.setCell ⟨B + 1, 0, none⟩ (.int .i64 ee)).setCell ⟨B + 1, 1, none⟩ (.int .i64 (i : Int))).setCell ⟨B + 1, 2, none⟩ (.int .i64 ea) := ⟨_, rfl⟩
            rw [← hw9]
            obtain ⟨d0, d1, d2, hO9⟩ := HKd.out.answer (ee, (i : Int), ea) w9 hw9
            have HO9 := Lib.hid hO9
            clear hw9 hO9 c0 c1 r0 r1 r2 z0 z1 z2
            dsimp only at d0 d1 d2
            refine bodyPost_ret (by simp [results, Try.results26, go_sem, d0, d1, d2]; try rfl) rfl ?_
            exact ⟨by rw [Hres.out]; rfl, HBd.out.trans (HO9.out.below (HBd.out.size) fun _ e => by have := HB.out; omega)⟩
        · have hq : (fc != 0) = true := by simp [hf0]
          have Hres : Hid (p.fault = (fc, (i : Int), 0)) := by
            show _ = _
            have h : x.fault (0 + i) = (fc, (i : Int), 0) := by unfold Fn.fault; rw [← Hfe.out, if_pos hf0, Nat.zero_add]
            rw [Hfl.out, Fn.faults_hit HX.out.1 HK.out.1 (by rw [h]; exact hf0), h]
          go_wp2_with fail
          obtain ⟨w9, hw9⟩ : ∃ w9, w9 = ((w3.setCell ⟨B + 1, 0, none⟩ (.int .i64 fc)).setCell ⟨B + 1, 1, none⟩ (.int .i64 (i : Int))).setCell ⟨B + 1, 2, none⟩ (.int .i64 0) := ⟨_, rfl⟩
          rw [← hw9]
          obtain ⟨d0, d1, d2, hO9⟩ := HK3.out.answer (fc, (i : Int), 0) w9 hw9
          have HO9 := Lib.hid hO9
          clear hw9 hO9 c0 c1 r0 r1 r2 z0 z1 z2
          dsimp only at d0 d1 d2
          refine bodyPost_ret (by simp [results, Try.results26, go_sem, d0, d1, d2]; try rfl) rfl ?_
          exact ⟨by rw [Hres.out]; rfl, HB3.out.trans (HO9.out.below (HB3.out.size) fun _ e => by have := HB.out; omega)⟩
      · obtain rfl : n = i := by omega
        have Hres : Hid (p.fault = (0, 0, 0)) := by
          show _ = _
          rw [Hfl.out]
          exact Fn.faults_none fun j y hy => HK.out.1 j y (by rw [Hl.out.2]; exact (List.getElem?_eq_some_iff.1 hy).1) hy
        clear hin hB
        go_wp2_with fail
        obtain ⟨w9, hw9⟩ : ∃ w9, w9 = ((wr.setCell ⟨B + 1, 0, none⟩ (.int .i64 0)).setCell ⟨B + 1, 1, none⟩ (.int .i64 0)).setCell ⟨B + 1, 2, none⟩ (.int .i64 0) := ⟨_, rfl⟩
        rw [← hw9]
        obtain ⟨d0, d1, d2, hO9⟩ := HK.out.2.1.answer (0, 0, 0) w9 hw9
        have HO9 := Lib.hid hO9
        clear hw9 hO9 c0 c1 r0 r1 r2 z0 z1 z2
        dsimp only at d0 d1 d2
        refine bodyPost_ret (by simp [results, Try.results26, go_sem, d0, d1, d2]; try rfl) rfl ?_
        exact ⟨by rw [Hres.out]; rfl, HK.out.2.2.trans (HO9.out.below (HK.out.2.2.size) fun _ e => by have := HB.out; omega)⟩
  · have hq : (he != 0) = true := by simp [h0]
    have Hres : Hid (p.fault = (he, 0, 0)) := by show _ = _; unfold Pg.fault; rw [← Hhe.out, if_pos h0]
    go_wp2_with fail
    obtain ⟨w9, hw9⟩ : ∃ w9, w9 = ((w2.setCell ⟨B + 1, 0, none⟩ (.int .i64 he)).setCell ⟨B + 1, 1, none⟩ (.int .i64 0)).setCell ⟨B + 1, 2, none⟩ (.int .i64 0) := ⟨_, rfl⟩
    rw [← hw9]
    obtain ⟨d0, d1, d2, hO9⟩ := HK2.out.answer (he, 0, 0) w9 hw9
    have HO9 := Lib.hid hO9
    clear hw9 hO9 c0 c1 r0 r1 r2 z0 z1 z2
    dsimp only at d0 d1 d2
    refine bodyPost_ret (by simp [results, Try.results26, go_sem, d0, d1, d2]; try rfl) rfl ?_
    exact ⟨by rw [Hres.out]; rfl, HB2.out.trans (HO9.out.below (HB2.out.size) fun _ e => by have := HB.out; omega)⟩
end Go.Proofs.Ytneibcpgengdnaa
