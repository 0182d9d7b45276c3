/- tree's checker: expressions. -/
import Derived.Test.YtgobcldecokppaaDoorTrForm
namespace Go.Proofs.YtgobcldecokppaaDoor
open Go.RowKit

/-- A checker in memory: how many statements, what is wrong. -/
structure KAt (W : World) (c : Nat) (n e : Int) : Prop where
  c0 : W.cell? ⟨c, 0, none⟩ = some (.int .i64 n)
  c1 : W.cell? ⟨c, 1, none⟩ = some (.int .i64 e)
  f0 : W.frozen? ⟨c, 0, none⟩ = false
  f1 : W.frozen? ⟨c, 1, none⟩ = false
theorem KAt.lt {W : World} {c : Nat} {n e : Int} (h : KAt W c n e) : c < W.heap.size := block_lt_of_cell h.c0
theorem KAt.later {W W' : World} {c : Nat} {n e : Int} (h : KAt W c n e) (hb : Below W.heap.size W W') : KAt W' c n e :=
  ⟨(hb.cell (p := ⟨c, 0, none⟩) h.lt).trans h.c0, (hb.cell (p := ⟨c, 1, none⟩) h.lt).trans h.c1, (hb.frozen (p := ⟨c, 0, none⟩) h.lt).trans h.f0, (hb.frozen (p := ⟨c, 1, none⟩) h.lt).trans h.f1⟩
theorem KAt.set1 {W : World} {c : Nat} {n e : Int} (h : KAt W c n e) (e' : Int) : KAt (W.setCell ⟨c, 1, none⟩ (.int .i64 e')) c n e' :=
  ⟨(World.cell?_setCell_other _ _ _ _ (by simp)).trans h.c0, World.cell?_setCell_same' _ _ _ (by rw [h.c1]; rfl), (World.frozen?_setCell _ _ _ _).trans h.f0, (World.frozen?_setCell _ _ _ _).trans h.f1⟩
def ExprOk (w0 : World) (l : List Ex) (v : Value) : Prop := ∀ x : Ex, x.args = l → ∀ (W : World) (c : Nat) (n level : Int), Below w0.heap.size w0 W → w0.heap.size ≤ c → KAt W c n 0 → 0 ≤ level → level ≤ 100 →
  Calls Tryd.prog 56 #[ptrV c, exVal x v, .int .i64 level] W (fun e W' => e = .returned (.bool (decide (x.err level = 0))) ∧ KAt W' c n (x.err level) ∧ Oth (· = c) W W')
set_option maxRecDepth 100000 in
set_option maxHeartbeats 4000000 in
theorem expr_any (l : List Ex) (v : Value) (w0 : World) (h : ExsIn w0 l v) : ExprOk w0 l v := by
  induction h with
  | mk l v vs h each ih =>
  intro x hx W c n level hB hcb hK hl0 hl1
  obtain ⟨a, cap, rfl, hncap, hcap⟩ := h.form
  obtain ⟨m, hm⟩ : ∃ m, m = l.length := ⟨_, rfl⟩
  have Hm := Lib.hid hm
  have Hrow : Hid (RowOf w0 (.slice a m cap) l.length 4 (fun b o i => ∀ x, l[i]? = some x → ExAt w0 b o x (vs i))) := by rw [hm]; exact h
  have Hih := Lib.hid (And.intro ih each)
  rw [← hm]
  rw [← hm] at hncap
  have hn62 : m ≤ 9223372036854775807 := by have : maxLen ≤ 9223372036854775807 := by decide
                                            omega
  have Hx := Lib.hid hx
  have hq := hK.lt
  obtain ⟨W1, hW1⟩ : ∃ W1, W1 = W.alloc (.cells #[.int .i64 x.kind, .int .i64 x.n, .string x.name, .slice a m cap] 53) := ⟨_, rfl⟩
  have hb1 : Below W.heap.size W W1 := by rw [hW1]; exact (Below.refl _ _).alloc (Nat.le_refl _) _
  have he1 : ExAt W1 W.heap.size 0 x (.slice a m cap) := by rw [hW1]; constructor <;> exact World.cell?_alloc_at _ _ _ _ rfl
  have hs1 : W1.heap.size = W.heap.size + 1 := by rw [hW1]; simp
  have H1 := Lib.hid (And.intro hb1 (And.intro he1 (And.intro hs1 (And.intro hB (hK.later hb1)))))
  have HW1 := Lib.hid hW1
  unfold exVal
  clear h ih each hm hx hb1 he1 hs1 hW1 hB hK
  go_enter Tryd.func56, Tryd.ntmps56
  go_wp2_with fail
  rw [← HW1.out]
  have q1 : W.heap.size < W1.heap.size := by have := H1.out.2.2.1; omega
  obtain ⟨i0, i1, i2, i3⟩ := H1.out.2.1
  simp only [Nat.zero_add] at i0 i1 i2 i3
  refine (arity_any x.kind W1).mono ?_
  rintro e w1 ⟨rfl, hw⟩
  rw [← hw]
  clear hw
  have hk0 := H1.out.2.2.2.2.c0
  have hk1 := H1.out.2.2.2.2.c1
  have hk2 := H1.out.2.2.2.2.f0
  have hk3 := H1.out.2.2.2.2.f1
  have q2 : c < W1.heap.size := by omega
  go_upto_block 0 with (fail)
  go_cut [1, 7, 8, 9, 25] (fun _ _ _ _ _ wc => KAt wc c n (x.own level) ∧ Oth (· = c) W1 wc)
  case first =>
    by_cases hl : 32 < level
    · have hown : Hid (x.own level = 20) := by show _ = _; simp [Ex.own, hl]
      go_wp2_with fail
      go_meet
      case rel => exact ⟨by rw [hown.out]; exact H1.out.2.2.2.2.set1 20, (Oth.refl (· = c) W1).set (p := ⟨c, 1, none⟩) rfl _⟩
    · obtain ⟨kb, hkb⟩ : ∃ kb, kb = kindB x.kind := ⟨_, rfl⟩
      obtain ⟨nb, hnb⟩ : ∃ nb, nb = namedB x.kind := ⟨_, rfl⟩
      obtain ⟨ar, har⟩ : ∃ ar, ar = arityN x.kind := ⟨_, rfl⟩
      rw [← hkb, ← hnb, ← har]
      have Hown : Hid (x.own level = if (!kb || (decide (0 ≤ ar) && decide ((m : Int) ≠ ar)) || (decide (x.n ≠ 0) && decide (x.kind ≠ 1)) || (decide (x.name.toList ≠ []) && !nb)) = true then 5 else if (nb && !nameB x.name) = true then 8 else if x.n < 0 then 1 else 0) := by
        show _ = _
        unfold Ex.own Ex.badForm
        rw [if_neg hl, ← hkb, ← hnb, ← har, Hx.out, ← Hm.out]
      have Hset : Hid (∀ e, x.own level = e → KAt (W1.setCell ⟨c, 1, none⟩ (.int .i64 e)) c n (x.own level) ∧ Oth (· = c) W1 (W1.setCell ⟨c, 1, none⟩ (.int .i64 e))) := fun e he => ⟨by rw [he]; exact H1.out.2.2.2.2.set1 e, (Oth.refl (· = c) W1).set (p := ⟨c, 1, none⟩) rfl _⟩
      have Hnone : Hid (x.own level = 0 → KAt W1 c n (x.own level) ∧ Oth (· = c) W1 W1) := fun he => ⟨by rw [he]; exact H1.out.2.2.2.2, Oth.refl _ _⟩
      obtain ⟨no, hno⟩ : ∃ no, no = nameB x.name := ⟨_, rfl⟩
      have Hno := Lib.hid hno
      rw [← hno] at Hown
      clear hkb hnb har hno
      go_wp2_with fail
      all_goals first
        | go_meet
          case rel => first
            | exact Hset.out _ (by rw [Hown.out]; simp_all <;> (intros; omega))
            | exact Hnone.out (by rw [Hown.out]; simp_all <;> (intros; omega))
        | refine (name_any x.name W1).mono ?_
          rintro e w2 ⟨rfl, hw⟩
          rw [← hw, ← Hno.out]
          clear hw Hno
          cases no
          all_goals
            go_wp2_with fail
          all_goals
            go_meet
            case rel => first
              | exact Hset.out _ (by rw [Hown.out]; simp_all <;> (intros; omega))
              | exact Hnone.out (by rw [Hown.out]; simp_all <;> (intros; omega))
  case rest =>
    obtain ⟨hK2, hO2⟩ := hcut
    have he2 := H1.out.2.1.oth hO2 q1 (by omega)
    have hBw : Below w0.heap.size w0 W1 := H1.out.2.2.2.1.trans (H1.out.1.mono H1.out.2.2.2.1.size)
    have hB2 : Below w0.heap.size w0 wc := hBw.trans (hO2.below hBw.size fun _ e => by omega)
    have hO3 : Oth (· = c) W wc := (Oth.of_below H1.out.1).trans hO2
    have H2 := Lib.hid (And.intro hK2 (And.intro hO3 hB2))
    clear hk0 hk1 hk2 hk3 i0 i1 i2 i3
    have hk1 := hK2.c1
    by_cases ho : x.own level = 0
    · have hlv : level ≤ 32 := by
        unfold Ex.own at ho
        split at ho
        · omega
        · omega
      have Herr : Hid (x.err level = Ex.errs l (level + 1)) := by show _ = _; rw [Ex.err_eq, Hx.out, ho]; simp
      have hK3 : KAt wc c n 0 := by rw [← ho]; exact hK2
      have H3 := Lib.hid hK3
      obtain ⟨i0, i1, i2, i3⟩ := he2
      simp only [Nat.zero_add] at i0 i1 i2 i3
      have q3 : W.heap.size < wc.heap.size := by have := hO2.size; omega
      rw [ho] at hk1
      clear hK2 hO2 hB2 hO3 hBw ho hK3 i0 i1 i2
      go_wp2_with fail
      clear hk1 i3
      obtain ⟨V, hV⟩ : ∃ V : World, V = wc := ⟨_, rfl⟩
      subst hV
      go_loopg [87] m (fun g iv wx => ∃ i : Nat, g = m - i ∧ iv = .int .i64 (i : Int) ∧ i ≤ m ∧ KAt wx c n 0 ∧ Oth (· = c) V wx ∧ ∀ j y, j < i → l[j]? = some y → y.err (level + 1) = 0)
      case atStart => exact ⟨0, rfl, rfl, Nat.zero_le _, H3.out, Oth.refl _ _, fun j y h => by omega⟩
      case round =>
        obtain ⟨i, hg, rfl, hi, hK, hO, hp⟩ := hrel
        have HK := Lib.hid (And.intro hK (And.intro hO hp))
        have Hg := Lib.hid hg
        have hB4 : Below w0.heap.size w0 wr := H2.out.2.2.trans (hO.below H2.out.2.2.size fun _ e => by omega)
        by_cases hin : i < m
        · obtain ⟨y, hy⟩ : ∃ y, l[i]? = some y := ⟨_, List.getElem?_eq_getElem (by rw [← Hm.out]; exact hin)⟩
          obtain ⟨b, off, rfl, hb, hP⟩ := Hrow.out.at (i := i) (by rw [← Hm.out]; exact hin)
          have hey := (hP y hy).later hB4 hb
          have ihy := Hih.out.1 i y hy y rfl
          obtain ⟨a', cap', hvs, -⟩ := (Hih.out.2 i y hy).form
          obtain ⟨m', hm'⟩ : ∃ m', m' = y.args.length := ⟨_, rfl⟩
          rw [hvs, ← hm'] at hey ihy
          obtain ⟨i0, i1, i2, i3⟩ := hey
          obtain ⟨W4, hW4⟩ : ∃ W4, W4 = wr.alloc (.cells #[.int .i64 y.kind, .int .i64 y.n, .string y.name, .slice a' m' cap'] 53) := ⟨_, rfl⟩
          have hb4 : Below wr.heap.size wr W4 := by rw [hW4]; exact (Below.refl _ _).alloc (Nat.le_refl _) _
          have he4 : ExAt W4 wr.heap.size 0 y (.slice a' m' cap') := by rw [hW4]; constructor <;> exact World.cell?_alloc_at _ _ _ _ rfl
          have H4 := Lib.hid (And.intro (hK.later hb4) (And.intro (Oth.of_below (S := (· = c)) hb4) (And.intro (hB4.trans (hb4.mono hB4.size)) (And.intro ihy hy))))
          have HW4 := Lib.hid hW4
          have He4 := Lib.hid he4
          clear hg hK hO hp hB4 hy hP ihy hvs hm' hb4 he4 hW4
          go_upto_region 15 with (fail)
          rw [← HW4.out]
          obtain ⟨j0, j1, j2, j3⟩ := He4.out
          simp only [Nat.zero_add] at j0 j1 j2 j3
          clear i0 i1 i2 i3
          go_wp2_with fail
          refine (H4.out.2.2.2.1 W4 c n (level + 1) H4.out.2.2.1 hcb H4.out.1 (by omega) (by omega)).mono ?_
          rintro e w5 ⟨rfl, hK5, hO5⟩
          have H5 := Lib.hid (And.intro hK5 (H4.out.2.1.trans hO5))
          clear hK5 hO5 j0 j1 j2 j3
          by_cases hz : y.err (level + 1) = 0
          · have hq2 : decide (y.err (level + 1) = 0) = true := decide_eq_true hz
            have Hz := Lib.hid hz
            rw [hq2]
            clear hz hq2
            go_wp2_with fail
            go_roundg (m - (i + 1))
            case measure => have := Hg.out; omega
            case rel => exact ⟨i + 1, rfl, by go_num, hin, by have h := H5.out.1; rw [Hz.out] at h; exact h, HK.out.2.1.trans H5.out.2, fun j z hj hz2 => by
                by_cases e : j = i
                · subst e
                  rw [H4.out.2.2.2.2] at hz2
                  cases hz2; exact Hz.out
                · exact HK.out.2.2 j z (by omega) hz2⟩
          · have hq2 : decide (y.err (level + 1) = 0) = false := decide_eq_false hz
            have Hz := Lib.hid hz
            have Hres : Hid (x.err level = y.err (level + 1)) := by
              show _ = _
              rw [Herr.out]
              exact Ex.errs_stop H4.out.2.2.2.2 HK.out.2.2 hz
            rw [hq2]
            clear hz hq2
            go_wp2_with fail
            go_ret
            exact ⟨by rw [Hres.out, decide_eq_false Hz.out]; rfl, by rw [Hres.out]; exact H5.out.1, H2.out.2.1.trans (HK.out.2.1.trans H5.out.2)⟩
        · obtain rfl : m = i := by omega
          have Hres : Hid (x.err level = 0) := by
            show _ = _
            rw [Herr.out]
            exact Ex.errs_none fun j y hy => HK.out.2.2 j y (by rw [Hm.out]; exact (List.getElem?_eq_some_iff.1 hy).1) hy
          clear hg hK hO hp hB4 hin
          go_wp2_with fail
          go_ret
          exact ⟨by rw [Hres.out]; rfl, by rw [Hres.out]; exact HK.out.1, H2.out.2.1.trans HK.out.2.1⟩
    · have Hres : Hid (x.err level = x.own level) := by show _ = _; rw [Ex.err_eq, if_pos ho]
      have Ho := Lib.hid ho
      have hq : (x.own level != 0) = true := by simp [ho]
      clear he2 hK2 hO2 hB2 hO3 hBw
      go_wp2_with fail
      go_ret
      exact ⟨by rw [Hres.out, decide_eq_false Ho.out]; rfl, by rw [Hres.out]; exact H2.out.1, H2.out.2.1⟩
end Go.Proofs.YtgobcldecokppaaDoor
