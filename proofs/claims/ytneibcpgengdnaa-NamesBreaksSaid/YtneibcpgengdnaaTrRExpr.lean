/- R2's look at expressions. -/
import Derived.Test.YtneibcpgengdnaaTrExpr
namespace Go.Proofs.Ytneibcpgengdnaa
open Go.RowKit

def keepE (e0 e : Int) : Int := if e0 = 0 then e else e0
theorem keepE_zero (e : Int) : keepE 0 e = e := rfl
theorem keepE_no {e0 : Int} (h : e0 ≠ 0) (e : Int) : keepE e0 e = e0 := if_neg h
def RExprOk (w0 : World) (l : List Ex) (v : Value) : Prop := ∀ x : Ex, x.args = l → ∀ (W : World) (c : Nat) (n e level : Int), Below w0.heap.size w0 W → w0.heap.size ≤ c → KAt W c n e → 0 ≤ level → level ≤ 100 →
  Calls Try.prog 90 #[ptrV c, exVal x v, .int .i64 level] W (fun E W' => E = .returned (.tuple #[]) ∧ KAt W' c n (keepE e (x.err level)) ∧ Oth (· = c) W W')
theorem arityN_no (k : Int) : arityN k ≠ -2 := by unfold arityN; split <;> (try split) <;> (try split) <;> (try split) <;> omega
theorem argsN_known (k : Int) : (!kindB k) = decide (argsN k = -2) := by
  unfold argsN
  cases kindB k
  · simp
  · simpa using arityN_no k
theorem Ex.badForm_args (x : Ex) : x.badForm = (decide (argsN x.kind = -2) || (decide (0 ≤ argsN x.kind) && decide ((x.args.length : Int) ≠ argsN x.kind)) || (decide (x.n ≠ 0) && decide (x.kind ≠ 1)) || (decide (x.name.toList ≠ []) && !namedB x.kind)) := by
  rw [← argsN_known]
  unfold Ex.badForm argsN
  cases kindB x.kind
  · simp
  · simp
set_option maxRecDepth 100000 in
set_option maxHeartbeats 4000000 in
theorem rexpr_any (l : List Ex) (v : Value) (w0 : World) (h : ExsIn w0 l v) : RExprOk w0 l v := by
  induction h with
  | mk l v vs h each ih =>
  intro x hx W c n e0 level hB hcb hK hl0 hl1
  obtain ⟨a, cap, rfl, hncap, hcap⟩ := h.form
  obtain ⟨m, hm⟩ : ∃ m, m = l.length := ⟨_, rfl⟩
  have Hm := Lib.hid hm
  have Hrow : Hid (RowOf w0 (.slice a m cap) l.length 4 (fun b o i => ∀ x, l[i]? = some x → ExAt w0 b o x (vs i))) := by rw [hm]; exact h
  have Hih := Lib.hid (And.intro ih each)
  rw [← hm]
  rw [← hm] at hncap
  have hn62 : m ≤ 9223372036854775807 := by have : maxLen ≤ 9223372036854775807 := by decide
                                            omega
  have Hx := Lib.hid hx
  have hq := hK.lt
  obtain ⟨W1, hW1⟩ : ∃ W1, W1 = W.alloc (.cells #[.int .i64 x.kind, .int .i64 x.n, .string x.name, .slice a m cap] 44) := ⟨_, rfl⟩
  have hb1 : Below W.heap.size W W1 := by rw [hW1]; exact (Below.refl _ _).alloc (Nat.le_refl _) _
  have he1 : ExAt W1 W.heap.size 0 x (.slice a m cap) := by rw [hW1]; constructor <;> exact World.cell?_alloc_at _ _ _ _ rfl
  have hs1 : W1.heap.size = W.heap.size + 1 := by rw [hW1]; simp
  have H1 := Lib.hid (And.intro hb1 (And.intro he1 (And.intro hs1 (And.intro hB (hK.later hb1)))))
  have HW1 := Lib.hid hW1
  unfold exVal
  clear h ih each hm hx hb1 he1 hs1 hW1 hB hK
  go_enter Try.func90, Try.ntmps90
  go_wp2_with fail
  rw [← HW1.out]
  have q1 : W.heap.size < W1.heap.size := by have := H1.out.2.2.1; omega
  obtain ⟨i0, i1, i2, i3⟩ := H1.out.2.1
  simp only [Nat.zero_add] at i0 i1 i2 i3
  refine (args_any x.kind W1).mono ?_
  rintro e w1 ⟨rfl, hw⟩
  rw [← hw]
  clear hw
  have hk0 := H1.out.2.2.2.2.c0
  have hk1 := H1.out.2.2.2.2.c1
  have hk2 := H1.out.2.2.2.2.f0
  have hk3 := H1.out.2.2.2.2.f1
  have q2 : c < W1.heap.size := by omega
  go_upto_block 0 with (fail)
  go_cut [1, 6, 61] (fun _ _ _ wc => KAt wc c n (keepE e0 (x.own level)) ∧ Oth (· = c) W1 wc)
  case first =>
    by_cases he0 : e0 = 0
    · subst he0
      by_cases hl : 32 < level
      · have hown : Hid (x.own level = 20) := by show _ = _; simp [Ex.own, hl]
        go_wp2_with fail
        go_meet
        case rel => exact ⟨by rw [keepE_zero, hown.out]; exact H1.out.2.2.2.2.set1 20, (Oth.refl (· = c) W1).set (p := ⟨c, 1, none⟩) rfl _⟩
      · obtain ⟨nb, hnb⟩ : ∃ nb, nb = namedB x.kind := ⟨_, rfl⟩
        obtain ⟨ar, har⟩ : ∃ ar, ar = argsN x.kind := ⟨_, rfl⟩
        rw [← har]
        have Hown : Hid (x.own level = if (decide (ar = -2) || (decide (0 ≤ ar) && decide ((m : Int) ≠ ar)) || (decide (x.n ≠ 0) && decide (x.kind ≠ 1)) || (decide (x.name.toList ≠ []) && !nb)) = true then 5 else if (nb && !nameB x.name) = true then 8 else if x.n < 0 then 1 else 0) := by
          show _ = _
          unfold Ex.own
          rw [Ex.badForm_args, if_neg hl, ← hnb, ← har, Hx.out, ← Hm.out]
        have Hnb := Lib.hid hnb
        have Hnb1 : Hid (x.kind = 1 → nb = false) := fun h => by rw [hnb, h]; rfl
        have Hset : Hid (∀ W', Below W1.heap.size W1 W' → ∀ e, x.own level = e → KAt (W'.setCell ⟨c, 1, none⟩ (.int .i64 e)) c n (keepE 0 (x.own level)) ∧ Oth (· = c) W1 (W'.setCell ⟨c, 1, none⟩ (.int .i64 e))) := fun W' hb e he => ⟨by rw [keepE_zero, he]; exact (H1.out.2.2.2.2.later hb).set1 e, (Oth.of_below (S := (· = c)) hb).set (p := ⟨c, 1, none⟩) rfl _⟩
        have Hnone : Hid (∀ W', Below W1.heap.size W1 W' → x.own level = 0 → KAt W' c n (keepE 0 (x.own level)) ∧ Oth (· = c) W1 W') := fun W' hb he => ⟨by rw [keepE_zero, he]; exact H1.out.2.2.2.2.later hb, .of_below hb⟩
        obtain ⟨no, hno⟩ : ∃ no, no = nameB x.name := ⟨_, rfl⟩
        have Hno := Lib.hid hno
        have Hrf := Lib.hid (Below.refl W1.heap.size W1)
        rw [← hno] at Hown
        clear hnb har hno
        go_wp2_with fail
        all_goals first
          | go_meet
            case rel => first
              | exact Hset.out _ Hrf.out _ (by rw [Hown.out]; have hn1 := Hnb1.out; simp_all <;> (intros; omega))
              | exact Hnone.out _ Hrf.out (by rw [Hown.out]; have hn1 := Hnb1.out; simp_all <;> (intros; omega))
          | refine (named_any _ W1).mono ?_
            rintro e w3 ⟨rfl, hw0⟩
            rw [← hw0]
            try rw [← Hnb.out]
            clear hw0
            go_wp2_with fail
            all_goals first
              | go_meet
                case rel => first
                  | exact Hset.out _ Hrf.out _ (by rw [Hown.out]; have hn1 := Hnb1.out; simp_all <;> (intros; omega))
                  | exact Hnone.out _ Hrf.out (by rw [Hown.out]; have hn1 := Hnb1.out; simp_all <;> (intros; omega))
              | refine (named_any _ W1).mono ?_
                rintro e w4 ⟨rfl, hw1⟩
                rw [← hw1]
                try rw [← Hnb.out]
                clear hw1
                go_wp2_with fail
                all_goals first
                  | go_meet
                    case rel => first
                      | exact Hset.out _ Hrf.out _ (by rw [Hown.out]; have hn1 := Hnb1.out; simp_all <;> (intros; omega))
                      | exact Hnone.out _ Hrf.out (by rw [Hown.out]; have hn1 := Hnb1.out; simp_all <;> (intros; omega))
                  | refine (rname_any x.name W1).mono ?_
                    rintro e w9 ⟨rfl, hb9⟩
                    rw [← Hno.out]
                    obtain ⟨j0, j1, j2, j3⟩ := H1.out.2.1.later hb9 q1
                    simp only [Nat.zero_add] at j0 j1 j2 j3
                    have l0 := (H1.out.2.2.2.2.later hb9).c0
                    have l1 := (H1.out.2.2.2.2.later hb9).c1
                    have l2 := (H1.out.2.2.2.2.later hb9).f0
                    have l3 := (H1.out.2.2.2.2.later hb9).f1
                    have Hb9 := Lib.hid hb9
                    clear hb9 Hno
                    cases no
                    all_goals
                      go_wp2_with fail
                    all_goals first
                      | go_meet
                        case rel => first
                          | exact Hset.out _ Hb9.out _ (by rw [Hown.out]; have hn1 := Hnb1.out; simp_all <;> (intros; omega))
                          | exact Hnone.out _ Hb9.out (by rw [Hown.out]; have hn1 := Hnb1.out; simp_all <;> (intros; omega))
              | refine (rname_any x.name W1).mono ?_
                rintro e w9 ⟨rfl, hb9⟩
                rw [← Hno.out]
                obtain ⟨j0, j1, j2, j3⟩ := H1.out.2.1.later hb9 q1
                simp only [Nat.zero_add] at j0 j1 j2 j3
                have l0 := (H1.out.2.2.2.2.later hb9).c0
                have l1 := (H1.out.2.2.2.2.later hb9).c1
                have l2 := (H1.out.2.2.2.2.later hb9).f0
                have l3 := (H1.out.2.2.2.2.later hb9).f1
                have Hb9 := Lib.hid hb9
                clear hb9 Hno
                cases no
                all_goals
                  go_wp2_with fail
                all_goals first
                  | go_meet
                    case rel => first
                      | exact Hset.out _ Hb9.out _ (by rw [Hown.out]; have hn1 := Hnb1.out; simp_all <;> (intros; omega))
                      | exact Hnone.out _ Hb9.out (by rw [Hown.out]; have hn1 := Hnb1.out; simp_all <;> (intros; omega))
          | refine (rname_any x.name W1).mono ?_
            rintro e w9 ⟨rfl, hb9⟩
            rw [← Hno.out]
            obtain ⟨j0, j1, j2, j3⟩ := H1.out.2.1.later hb9 q1
            simp only [Nat.zero_add] at j0 j1 j2 j3
            have l0 := (H1.out.2.2.2.2.later hb9).c0
            have l1 := (H1.out.2.2.2.2.later hb9).c1
            have l2 := (H1.out.2.2.2.2.later hb9).f0
            have l3 := (H1.out.2.2.2.2.later hb9).f1
            have Hb9 := Lib.hid hb9
            clear hb9 Hno
            cases no
            all_goals
              go_wp2_with fail
            all_goals first
              | go_meet
                case rel => first
                  | exact Hset.out _ Hb9.out _ (by rw [Hown.out]; have hn1 := Hnb1.out; simp_all <;> (intros; omega))
                  | exact Hnone.out _ Hb9.out (by rw [Hown.out]; have hn1 := Hnb1.out; simp_all <;> (intros; omega))
    · have hq0 : (e0 != 0) = true := by simp [he0]
      have He0 := Lib.hid he0
      clear he0
      go_wp2_with fail
      go_meet
      case rel => exact ⟨by rw [keepE_no He0.out]; exact H1.out.2.2.2.2, Oth.refl _ _⟩
  case rest =>
    obtain ⟨hK2, hO2⟩ := hcut
    have he2 := H1.out.2.1.oth hO2 q1 (by omega)
    have hBw : Below w0.heap.size w0 W1 := H1.out.2.2.2.1.trans (H1.out.1.mono H1.out.2.2.2.1.size)
    have hB2 : Below w0.heap.size w0 wc := hBw.trans (hO2.below hBw.size fun _ e => by omega)
    have hO3 : Oth (· = c) W wc := (Oth.of_below H1.out.1).trans hO2
    have q3 : W.heap.size < wc.heap.size := by have := hO2.size; omega
    have Hst : Hid ((keepE e0 (x.own level) = 0 ∧ e0 = 0 ∧ x.own level = 0) ∨ (keepE e0 (x.own level) ≠ 0 ∧ keepE e0 (x.err level) = keepE e0 (x.own level))) := by
      by_cases h1 : e0 = 0
      · subst h1
        by_cases h2 : x.own level = 0
        · exact .inl ⟨h2, rfl, h2⟩
        · exact .inr ⟨h2, by rw [keepE_zero, keepE_zero, Ex.err_eq, if_pos h2]⟩
      · exact .inr ⟨by rw [keepE_no h1]; exact h1, by rw [keepE_no h1, keepE_no h1]⟩
    obtain ⟨e1, he1⟩ : ∃ e1, e1 = keepE e0 (x.own level) := ⟨_, rfl⟩
    rw [← he1] at hK2 Hst
    have H2 := Lib.hid (And.intro hK2 (And.intro hO3 (And.intro hB2 he2)))
    clear hk0 hk1 hk2 hk3 i0 i1 i2 i3 hK2 hO2 hBw hB2 hO3 he2 he1
    obtain ⟨V, hV⟩ : ∃ V : World, V = wc := ⟨_, rfl⟩
    subst hV
    go_wp2_with fail
    go_loopg [7] m (fun g iv wx => ∃ (i : Nat) (ei : Int), g = m - i ∧ iv = .int .i64 (i : Int) ∧ i ≤ m ∧ KAt wx c n ei ∧ Oth (· = c) V wx ∧ ((ei = 0 ∧ e0 = 0 ∧ x.own level = 0 ∧ ∀ j y, j < i → l[j]? = some y → y.err (level + 1) = 0) ∨ (ei ≠ 0 ∧ keepE e0 (x.err level) = ei)))
    case atStart =>
      refine ⟨0, e1, rfl, rfl, Nat.zero_le _, H2.out.1, Oth.refl _ _, ?_⟩
      rcases Hst.out with ⟨h1, h2, h3⟩ | ⟨h1, h2⟩
      · exact .inl ⟨h1, h2, h3, fun j y h => by omega⟩
      · exact .inr ⟨h1, h2⟩
    case round =>
      obtain ⟨i, ei, hg, rfl, hi, hK, hO, hp⟩ := hrel
      have hbx := H2.out.2.2.2.oth hO q3 (by omega)
      have HK := Lib.hid (And.intro hK (And.intro hO hp))
      have Hg := Lib.hid hg
      have hB4 : Below w0.heap.size w0 wr := H2.out.2.2.1.trans (hO.below H2.out.2.2.1.size fun _ e => by omega)
      have hk1 := hK.c1
      obtain ⟨x0, x1, x2, x3⟩ := hbx
      simp only [Nat.zero_add] at x3
      have q4 : W.heap.size < wr.heap.size := by have := hO.size; omega
      clear hg hK hO hp x0 x1 x2
      by_cases hin : i < m
      · by_cases hez : ei = 0
        · subst hez
          obtain ⟨hp1, hp2, hp3⟩ : e0 = 0 ∧ x.own level = 0 ∧ ∀ j y, j < i → l[j]? = some y → y.err (level + 1) = 0 := by
            rcases HK.out.2.2 with h | h
            · exact h.2
            · exact absurd rfl h.1
          have hlv : level ≤ 32 := by
            unfold Ex.own at hp2
            split at hp2 <;> omega
          have Hp := Lib.hid (And.intro hp1 (And.intro hp2 hp3))
          obtain ⟨y, hy⟩ : ∃ y, l[i]? = some y := ⟨_, List.getElem?_eq_getElem (by rw [← Hm.out]; exact hin)⟩
          obtain ⟨b, off, rfl, hb, hP⟩ := Hrow.out.at (i := i) (by rw [← Hm.out]; exact hin)
          have hey := (hP y hy).later hB4 hb
          have ihy := Hih.out.1 i y hy y rfl
          obtain ⟨a', cap', hvs, -⟩ := (Hih.out.2 i y hy).form
          obtain ⟨m', hm'⟩ : ∃ m', m' = y.args.length := ⟨_, rfl⟩
          rw [hvs, ← hm'] at hey ihy
          obtain ⟨i0, i1, i2, i3⟩ := hey
          have H4 := Lib.hid (And.intro ihy (And.intro hy hB4))
          clear hB4 hy hP ihy hvs hm' hp1 hp2 hp3
          go_wp2_with fail
          refine (H4.out.1 wr c n 0 (level + 1) H4.out.2.2 hcb HK.out.1 (by omega) (by omega)).mono ?_
          rintro e w5 ⟨rfl, hK5, hO5⟩
          have H5 := Lib.hid (And.intro hK5 hO5)
          clear hK5 hO5 i0 i1 i2 i3 hk1 x3
          go_wp2_with fail
          go_roundg (m - (i + 1))
          case measure => have := Hg.out; omega
          case rel =>
            refine ⟨i + 1, y.err (level + 1), rfl, by go_num, hin, H5.out.1, HK.out.2.1.trans H5.out.2, ?_⟩
            by_cases hz : y.err (level + 1) = 0
            · refine .inl ⟨hz, Hp.out.1, Hp.out.2.1, fun j z hj hz2 => ?_⟩
              by_cases e : j = i
              · subst e
                rw [H4.out.2.1] at hz2
                cases hz2; exact hz
              · exact Hp.out.2.2 j z (by omega) hz2
            · refine .inr ⟨hz, ?_⟩
              rw [Hp.out.1, keepE_zero, Ex.err_eq, if_neg (by simp [Hp.out.2.1]), Hx.out]
              exact Ex.errs_stop H4.out.2.1 Hp.out.2.2 hz
        · have hq : (ei == 0) = false := by simp [hez]
          have Hres : Hid (keepE e0 (x.err level) = ei) := by
            show _ = _
            rcases HK.out.2.2 with h | h
            · exact absurd h.1 hez
            · exact h.2
          clear hB4
          go_wp2_with fail
          refine bodyPost_end (results_none rfl _ _ _) rfl ?_
          exact ⟨rfl, by rw [Hres.out]; exact HK.out.1, H2.out.2.1.trans HK.out.2.1⟩
      · obtain rfl : m = i := by omega
        have Hres : Hid (keepE e0 (x.err level) = ei) := by
          show _ = _
          rcases HK.out.2.2 with h | h
          · rw [h.2.1, keepE_zero, Ex.err_eq, if_neg (by simp [h.2.2.1]), Hx.out, h.1]
            exact Ex.errs_none fun j y hy => h.2.2.2 j y (by rw [Hm.out]; exact (List.getElem?_eq_some_iff.1 hy).1) hy
          · exact h.2
        clear hB4 hin hk1
        go_wp2_with fail
        refine bodyPost_end (results_none rfl _ _ _) rfl ?_
        exact ⟨rfl, by rw [Hres.out]; exact HK.out.1, H2.out.2.1.trans HK.out.2.1⟩
end Go.Proofs.Ytneibcpgengdnaa
