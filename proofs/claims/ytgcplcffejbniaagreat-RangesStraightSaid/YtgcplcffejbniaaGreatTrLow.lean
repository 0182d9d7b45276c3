/- Has a case the least number? -/
import Derived.Test.YtgcplcffejbniaaGreatTrExpr
import Derived.Handy
/- R2's look at expressions. -/
namespace Go.Proofs.YtgcplcffejbniaaGreat
open Go.RowKit

def keepE (e0 e : Int) : Int := if e0 = 0 then e else e0
theorem keepE_zero (e : Int) : keepE 0 e = e := rfl
theorem keepE_no {e0 : Int} (h : e0 ≠ 0) (e : Int) : keepE e0 e = e0 := if_neg h
def RExprOk (w0 : World) (l : List Ex) (v : Value) : Prop := ∀ x : Ex, x.args = l → ∀ (W : World) (c : Nat) (n e level : Int), Below w0.heap.size w0 W → w0.heap.size ≤ c → KAt W c n e → 0 ≤ level → level ≤ 100 →
  Calls Tryz.prog 90 #[ptrV c, exVal x v, .int .i64 level] W (fun E W' => E = .returned (.tuple #[]) ∧ KAt W' c n (keepE e (x.err level)) ∧ Oth (· = c) W W')
theorem arityN_no (k : Int) : arityN k ≠ -2 := by unfold arityN; split <;> (try split) <;> (try split) <;> (try split) <;> omega
theorem argsN_known (k : Int) : (!kindB k) = decide (argsN k = -2) := by
  unfold argsN
  cases kindB k
  · simp
  · simpa using arityN_no k
theorem Ex.badForm_args (x : Ex) : x.badForm = (decide (argsN x.kind = -2) || (decide (0 ≤ argsN x.kind) && decide ((x.args.length : Int) ≠ argsN x.kind)) || (decide (x.n ≠ 0) && decide (x.kind ≠ 1)) || (decide (x.name.toList ≠ []) && !namedB x.kind)) := by
  rw [← argsN_known]
  unfold Ex.badForm argsN
  cases kindB x.kind
  · simp
  · simp
set_option maxRecDepth 100000 in
set_option maxHeartbeats 4000000 in
theorem rexpr_any (l : List Ex) (v : Value) (w0 : World) (h : ExsIn w0 l v) : RExprOk w0 l v := by
  induction h with
  | mk l v vs h each ih =>
  intro x hx W c n e0 level hB hcb hK hl0 hl1
  obtain ⟨a, cap, rfl, hncap, hcap⟩ := h.form
  obtain ⟨m, hm⟩ : ∃ m, m = l.length := ⟨_, rfl⟩
  have Hm := Lib.hid hm
  have Hrow : Hid (RowOf w0 (.slice a m cap) l.length 4 (fun b o i => ∀ x, l[i]? = some x → ExAt w0 b o x (vs i))) := by rw [hm]; exact h
  have Hih := Lib.hid (And.intro ih each)
  rw [← hm]
  rw [← hm] at hncap
  have hn62 : m ≤ 9223372036854775807 := by have : maxLen ≤ 9223372036854775807 := by decide
                                            omega
  have Hx := Lib.hid hx
  have hq := hK.lt
  obtain ⟨W1, hW1⟩ : ∃ W1, W1 = W.alloc (.cells #[.int .i64 x.kind, .int .i64 x.n, .string x.name, .slice a m cap] 35) := ⟨_, rfl⟩
  have hb1 : Below W.heap.size W W1 := by rw [hW1]; exact (Below.refl _ _).alloc (Nat.le_refl _) _
  have he1 : ExAt W1 W.heap.size 0 x (.slice a m cap) := by rw [hW1]; constructor <;> exact World.cell?_alloc_at _ _ _ _ rfl
  have hs1 : W1.heap.size = W.heap.size + 1 := by rw [hW1]; simp
  have H1 := Lib.hid (And.intro hb1 (And.intro he1 (And.intro hs1 (And.intro hB (hK.later hb1)))))
  have HW1 := Lib.hid hW1
  unfold exVal
  clear h ih each hm hx hb1 he1 hs1 hW1 hB hK
  go_enter Tryz.func90, Tryz.ntmps90
  go_wp2_with fail
  rw [← HW1.out]
  have q1 : W.heap.size < W1.heap.size := by have := H1.out.2.2.1; omega
  obtain ⟨i0, i1, i2, i3⟩ := H1.out.2.1
  simp only [Nat.zero_add] at i0 i1 i2 i3
  refine (args_any x.kind W1).mono ?_
  rintro e w1 ⟨rfl, hw⟩
  rw [← hw]
  clear hw
  have hk0 := H1.out.2.2.2.2.c0
  have hk1 := H1.out.2.2.2.2.c1
  have hk2 := H1.out.2.2.2.2.f0
  have hk3 := H1.out.2.2.2.2.f1
  have q2 : c < W1.heap.size := by omega
  go_upto_block 0 with (fail)
  go_cut [1, 6, 61] (fun _ _ _ wc => KAt wc c n (keepE e0 (x.own level)) ∧ Oth (· = c) W1 wc)
  case first =>
    by_cases he0 : e0 = 0
    · subst he0
      by_cases hl : 32 < level
      · have hown : Hid (x.own level = 20) := by show _ = _; simp [Ex.own, hl]
        go_wp2_with fail
        go_meet
        case rel => exact ⟨by rw [keepE_zero, hown.out]; exact H1.out.2.2.2.2.set1 20, (Oth.refl (· = c) W1).set (p := ⟨c, 1, none⟩) rfl _⟩
      · obtain ⟨nb, hnb⟩ : ∃ nb, nb = namedB x.kind := ⟨_, rfl⟩
        obtain ⟨ar, har⟩ : ∃ ar, ar = argsN x.kind := ⟨_, rfl⟩
        rw [← har]
        have Hown : Hid (x.own level = if (decide (ar = -2) || (decide (0 ≤ ar) && decide ((m : Int) ≠ ar)) || (decide (x.n ≠ 0) && decide (x.kind ≠ 1)) || (decide (x.name.toList ≠ []) && !nb)) = true then 5 else if (nb && !nameB x.name) = true then 8 else if x.n < 0 then 1 else 0) := by
          show _ = _
          unfold Ex.own
          rw [Ex.badForm_args, if_neg hl, ← hnb, ← har, Hx.out, ← Hm.out]
        have Hnb := Lib.hid hnb
        have Hnb1 : Hid (x.kind = 1 → nb = false) := fun h => by rw [hnb, h]; rfl
        have Hset : Hid (∀ W', Below W1.heap.size W1 W' → ∀ e, x.own level = e → KAt (W'.setCell ⟨c, 1, none⟩ (.int .i64 e)) c n (keepE 0 (x.own level)) ∧ Oth (· = c) W1 (W'.setCell ⟨c, 1, none⟩ (.int .i64 e))) := fun W' hb e he => ⟨by rw [keepE_zero, he]; exact (H1.out.2.2.2.2.later hb).set1 e, (Oth.of_below (S := (· = c)) hb).set (p := ⟨c, 1, none⟩) rfl _⟩
        have Hnone : Hid (∀ W', Below W1.heap.size W1 W' → x.own level = 0 → KAt W' c n (keepE 0 (x.own level)) ∧ Oth (· = c) W1 W') := fun W' hb he => ⟨by rw [keepE_zero, he]; exact H1.out.2.2.2.2.later hb, .of_below hb⟩
        obtain ⟨no, hno⟩ : ∃ no, no = nameB x.name := ⟨_, rfl⟩
        have Hno := Lib.hid hno
        have Hrf := Lib.hid (Below.refl W1.heap.size W1)
        rw [← hno] at Hown
        clear hnb har hno
        go_wp2_with fail
        all_goals first
          | go_meet
            case rel => first
              | exact Hset.out _ Hrf.out _ (by rw [Hown.out]; have hn1 := Hnb1.out; simp_all <;> (intros; omega))
              | exact Hnone.out _ Hrf.out (by rw [Hown.out]; have hn1 := Hnb1.out; simp_all <;> (intros; omega))
          | refine (named_any _ W1).mono ?_
            rintro e w3 ⟨rfl, hw0⟩
            rw [← hw0]
            try rw [← Hnb.out]
            clear hw0
            go_wp2_with fail
            all_goals first
              | go_meet
                case rel => first
                  | exact Hset.out _ Hrf.out _ (by rw [Hown.out]; have hn1 := Hnb1.out; simp_all <;> (intros; omega))
                  | exact Hnone.out _ Hrf.out (by rw [Hown.out]; have hn1 := Hnb1.out; simp_all <;> (intros; omega))
              | refine (named_any _ W1).mono ?_
                rintro e w4 ⟨rfl, hw1⟩
                rw [← hw1]
                try rw [← Hnb.out]
                clear hw1
                go_wp2_with fail
                all_goals first
                  | go_meet
                    case rel => first
                      | exact Hset.out _ Hrf.out _ (by rw [Hown.out]; have hn1 := Hnb1.out; simp_all <;> (intros; omega))
                      | exact Hnone.out _ Hrf.out (by rw [Hown.out]; have hn1 := Hnb1.out; simp_all <;> (intros; omega))
                  | refine (rname_any x.name W1).mono ?_
                    rintro e w9 ⟨rfl, hb9⟩
                    rw [← Hno.out]
                    obtain ⟨j0, j1, j2, j3⟩ := H1.out.2.1.later hb9 q1
                    simp only [Nat.zero_add] at j0 j1 j2 j3
                    have l0 := (H1.out.2.2.2.2.later hb9).c0
                    have l1 := (H1.out.2.2.2.2.later hb9).c1
                    have l2 := (H1.out.2.2.2.2.later hb9).f0
                    have l3 := (H1.out.2.2.2.2.later hb9).f1
                    have Hb9 := Lib.hid hb9
                    clear hb9 Hno
                    cases no
                    all_goals
                      go_wp2_with fail
                    all_goals first
                      | go_meet
                        case rel => first
                          | exact Hset.out _ Hb9.out _ (by rw [Hown.out]; have hn1 := Hnb1.out; simp_all <;> (intros; omega))
                          | exact Hnone.out _ Hb9.out (by rw [Hown.out]; have hn1 := Hnb1.out; simp_all <;> (intros; omega))
              | refine (rname_any x.name W1).mono ?_
                rintro e w9 ⟨rfl, hb9⟩
                rw [← Hno.out]
                obtain ⟨j0, j1, j2, j3⟩ := H1.out.2.1.later hb9 q1
                simp only [Nat.zero_add] at j0 j1 j2 j3
                have l0 := (H1.out.2.2.2.2.later hb9).c0
                have l1 := (H1.out.2.2.2.2.later hb9).c1
                have l2 := (H1.out.2.2.2.2.later hb9).f0
                have l3 := (H1.out.2.2.2.2.later hb9).f1
                have Hb9 := Lib.hid hb9
                clear hb9 Hno
                cases no
                all_goals
                  go_wp2_with fail
                all_goals first
                  | go_meet
                    case rel => first
                      | exact Hset.out _ Hb9.out _ (by rw [Hown.out]; have hn1 := Hnb1.out; simp_all <;> (intros; omega))
                      | exact Hnone.out _ Hb9.out (by rw [Hown.out]; have hn1 := Hnb1.out; simp_all <;> (intros; omega))
          | refine (rname_any x.name W1).mono ?_
            rintro e w9 ⟨rfl, hb9⟩
            rw [← Hno.out]
            obtain ⟨j0, j1, j2, j3⟩ := H1.out.2.1.later hb9 q1
            simp only [Nat.zero_add] at j0 j1 j2 j3
            have l0 := (H1.out.2.2.2.2.later hb9).c0
            have l1 := (H1.out.2.2.2.2.later hb9).c1
            have l2 := (H1.out.2.2.2.2.later hb9).f0
            have l3 := (H1.out.2.2.2.2.later hb9).f1
            have Hb9 := Lib.hid hb9
            clear hb9 Hno
            cases no
            all_goals
              go_wp2_with fail
            all_goals first
              | go_meet
                case rel => first
                  | exact Hset.out _ Hb9.out _ (by rw [Hown.out]; have hn1 := Hnb1.out; simp_all <;> (intros; omega))
                  | exact Hnone.out _ Hb9.out (by rw [Hown.out]; have hn1 := Hnb1.out; simp_all <;> (intros; omega))
    · have hq0 : (e0 != 0) = true := by simp [he0]
      have He0 := Lib.hid he0
      clear he0
      go_wp2_with fail
      go_meet
      case rel => exact ⟨by rw [keepE_no He0.out]; exact H1.out.2.2.2.2, Oth.refl _ _⟩
  case rest =>
    obtain ⟨hK2, hO2⟩ := hcut
    have he2 := H1.out.2.1.oth hO2 q1 (by omega)
    have hBw : Below w0.heap.size w0 W1 := H1.out.2.2.2.1.trans (H1.out.1.mono H1.out.2.2.2.1.size)
    have hB2 : Below w0.heap.size w0 wc := hBw.trans (hO2.below hBw.size fun _ e => by omega)
    have hO3 : Oth (· = c) W wc := (Oth.of_below H1.out.1).trans hO2
    have q3 : W.heap.size < wc.heap.size := by have := hO2.size; omega
    have Hst : Hid ((keepE e0 (x.own level) = 0 ∧ e0 = 0 ∧ x.own level = 0) ∨ (keepE e0 (x.own level) ≠ 0 ∧ keepE e0 (x.err level) = keepE e0 (x.own level))) := by
      by_cases h1 : e0 = 0
      · subst h1
        by_cases h2 : x.own level = 0
        · exact .inl ⟨h2, rfl, h2⟩
        · exact .inr ⟨h2, by rw [keepE_zero, keepE_zero, Ex.err_eq, if_pos h2]⟩
      · exact .inr ⟨by rw [keepE_no h1]; exact h1, by rw [keepE_no h1, keepE_no h1]⟩
    obtain ⟨e1, he1⟩ : ∃ e1, e1 = keepE e0 (x.own level) := ⟨_, rfl⟩
    rw [← he1] at hK2 Hst
    have H2 := Lib.hid (And.intro hK2 (And.intro hO3 (And.intro hB2 he2)))
    clear hk0 hk1 hk2 hk3 i0 i1 i2 i3 hK2 hO2 hBw hB2 hO3 he2 he1
    obtain ⟨V, hV⟩ : ∃ V : World, V = wc := ⟨_, rfl⟩
    subst hV
    go_wp2_with fail
    go_loopg [7] m (fun g iv wx => ∃ (i : Nat) (ei : Int), g = m - i ∧ iv = .int .i64 (i : Int) ∧ i ≤ m ∧ KAt wx c n ei ∧ Oth (· = c) V wx ∧ ((ei = 0 ∧ e0 = 0 ∧ x.own level = 0 ∧ ∀ j y, j < i → l[j]? = some y → y.err (level + 1) = 0) ∨ (ei ≠ 0 ∧ keepE e0 (x.err level) = ei)))
    case atStart =>
      refine ⟨0, e1, rfl, rfl, Nat.zero_le _, H2.out.1, Oth.refl _ _, ?_⟩
      rcases Hst.out with ⟨h1, h2, h3⟩ | ⟨h1, h2⟩
      · exact .inl ⟨h1, h2, h3, fun j y h => by omega⟩
      · exact .inr ⟨h1, h2⟩
    case round =>
      obtain ⟨i, ei, hg, rfl, hi, hK, hO, hp⟩ := hrel
      have hbx := H2.out.2.2.2.oth hO q3 (by omega)
      have HK := Lib.hid (And.intro hK (And.intro hO hp))
      have Hg := Lib.hid hg
      have hB4 : Below w0.heap.size w0 wr := H2.out.2.2.1.trans (hO.below H2.out.2.2.1.size fun _ e => by omega)
      have hk1 := hK.c1
      obtain ⟨x0, x1, x2, x3⟩ := hbx
      simp only [Nat.zero_add] at x3
      have q4 : W.heap.size < wr.heap.size := by have := hO.size; omega
      clear hg hK hO hp x0 x1 x2
      by_cases hin : i < m
      · by_cases hez : ei = 0
        · subst hez
          obtain ⟨hp1, hp2, hp3⟩ : e0 = 0 ∧ x.own level = 0 ∧ ∀ j y, j < i → l[j]? = some y → y.err (level + 1) = 0 := by
            rcases HK.out.2.2 with h | h
            · exact h.2
            · exact absurd rfl h.1
          have hlv : level ≤ 32 := by
            unfold Ex.own at hp2
            split at hp2 <;> omega
          have Hp := Lib.hid (And.intro hp1 (And.intro hp2 hp3))
          obtain ⟨y, hy⟩ : ∃ y, l[i]? = some y := ⟨_, List.getElem?_eq_getElem (by rw [← Hm.out]; exact hin)⟩
          obtain ⟨b, off, rfl, hb, hP⟩ := Hrow.out.at (i := i) (by rw [← Hm.out]; exact hin)
          have hey := (hP y hy).later hB4 hb
          have ihy := Hih.out.1 i y hy y rfl
          obtain ⟨a', cap', hvs, -⟩ := (Hih.out.2 i y hy).form
          obtain ⟨m', hm'⟩ : ∃ m', m' = y.args.length := ⟨_, rfl⟩
          rw [hvs, ← hm'] at hey ihy
          obtain ⟨i0, i1, i2, i3⟩ := hey
          have H4 := Lib.hid (And.intro ihy (And.intro hy hB4))
          clear hB4 hy hP ihy hvs hm' hp1 hp2 hp3
          go_wp2_with fail
          refine (H4.out.1 wr c n 0 (level + 1) H4.out.2.2 hcb HK.out.1 (by omega) (by omega)).mono ?_
          rintro e w5 ⟨rfl, hK5, hO5⟩
          have H5 := Lib.hid (And.intro hK5 hO5)
          clear hK5 hO5 i0 i1 i2 i3 hk1 x3
          go_wp2_with fail
          go_roundg (m - (i + 1))
          case measure => have := Hg.out; omega
          case rel =>
            refine ⟨i + 1, y.err (level + 1), rfl, by go_num, hin, H5.out.1, HK.out.2.1.trans H5.out.2, ?_⟩
            by_cases hz : y.err (level + 1) = 0
            · refine .inl ⟨hz, Hp.out.1, Hp.out.2.1, fun j z hj hz2 => ?_⟩
              by_cases e : j = i
              · subst e
                rw [H4.out.2.1] at hz2
                cases hz2; exact hz
              · exact Hp.out.2.2 j z (by omega) hz2
            · refine .inr ⟨hz, ?_⟩
              rw [Hp.out.1, keepE_zero, Ex.err_eq, if_neg (by simp [Hp.out.2.1]), Hx.out]
              exact Ex.errs_stop H4.out.2.1 Hp.out.2.2 hz
        · have hq : (ei == 0) = false := by simp [hez]
          have Hres : Hid (keepE e0 (x.err level) = ei) := by
            show _ = _
            rcases HK.out.2.2 with h | h
            · exact absurd h.1 hez
            · exact h.2
          clear hB4
          go_wp2_with fail
          refine bodyPost_end (results_none rfl _ _ _) rfl ?_
          exact ⟨rfl, by rw [Hres.out]; exact HK.out.1, H2.out.2.1.trans HK.out.2.1⟩
      · obtain rfl : m = i := by omega
        have Hres : Hid (keepE e0 (x.err level) = ei) := by
          show _ = _
          rcases HK.out.2.2 with h | h
          · rw [h.2.1, keepE_zero, Ex.err_eq, if_neg (by simp [h.2.2.1]), Hx.out, h.1]
            exact Ex.errs_none fun j y hy => h.2.2.2 j y (by rw [Hm.out]; exact (List.getElem?_eq_some_iff.1 hy).1) hy
          · exact h.2
        clear hB4 hin hk1
        go_wp2_with fail
        refine bodyPost_end (results_none rfl _ _ _) rfl ?_
        exact ⟨rfl, by rw [Hres.out]; exact HK.out.1, H2.out.2.1.trans HK.out.2.1⟩
end Go.Proofs.YtgcplcffejbniaaGreat

/- What is wrong first with statements, and how many are met up to there. -/
namespace Go.Proofs.YtgcplcffejbniaaGreat
open Go.RowKit

def cntName (k : Int) : Bool := decide (k = 1 ∨ k = 2 ∨ k = 3 ∨ k = 4 ∨ k = 7)
def cntN (k : Int) : Bool := decide (k = 2)
def cntA (k : Int) : Bool := decide (k = 1 ∨ k = 3 ∨ k = 4 ∨ k = 5 ∨ k = 6 ∨ k = 7 ∨ k = 9 ∨ k = 10)
def cntB (k : Int) : Bool := decide (k = 4 ∨ k = 7)
def cntBody (k : Int) : Bool := decide (k = 5 ∨ k = 7)
def cntElse (k : Int) : Bool := decide (k = 5 ∨ k = 6)
def cntCases (k : Int) : Bool := decide (k = 6)
def knownS (k : Int) : Bool := decide (1 ≤ k ∧ k ≤ 10)
def leastI : Int := -9223372036854775808
/-- Is a statement's form right, by its own fields? -/
def St.formed (x : St) : Bool := knownS x.kind && (cntName x.kind || decide (x.name.toList = [])) && (cntN x.kind || decide (x.n = 0)) && (cntA x.kind || x.a.zero) && (cntB x.kind || x.b.zero) && (cntBody x.kind || decide (x.body.length = 0)) && (cntElse x.kind || decide (x.els.length = 0)) && (cntCases x.kind || decide (x.cases.length = 0))
def lowestB (l : List Cs) : Bool := l.any fun y => y.n == leastI
def St.own (x : St) : Int := if x.formed = false then 5 else if (cntName x.kind && !nameB x.name) = true then 8 else if (decide (x.n < 0) || lowestB x.cases) = true then 1 else if x.kind = 10 ∧ x.a.kind ≠ 4 then 5 else 0
/-- What is wrong with a statement ahead of its bodies. -/
def St.front (x : St) (level : Int) : Int :=
  if 32 < level then 20 else if x.own ≠ 0 then x.own else
  if cntA x.kind = true ∧ x.a.err (level + 1) ≠ 0 then x.a.err (level + 1) else
  if cntB x.kind = true ∧ x.b.err (level + 1) ≠ 0 then x.b.err (level + 1) else 0
/-- One after the other, up to the first that is wrong. -/
def after (r q : Nat × Int) : Nat × Int := if r.2 ≠ 0 then r else (r.1 + q.1, q.2)
mutual
def St.chk : St → Int → Nat × Int
  | .mk k s n a b body els cases, level => after (1, St.front (.mk k s n a b body els cases) level) (after (St.chks body (level + 1)) (after (Cs.chks cases (level + 1)) (St.chks els (level + 1))))
def St.chks : List St → Int → Nat × Int
  | [], _ => (0, 0)
  | x :: l, level => after (St.chk x level) (St.chks l level)
def Cs.chk : Cs → Int → Nat × Int
  | .mk _ body, level => St.chks body level
def Cs.chks : List Cs → Int → Nat × Int
  | [], _ => (0, 0)
  | x :: l, level => after (Cs.chk x level) (Cs.chks l level)
end
theorem St.chk_eq (x : St) (level : Int) : x.chk level = after (1, x.front level) (after (St.chks x.body (level + 1)) (after (Cs.chks x.cases (level + 1)) (St.chks x.els (level + 1)))) := by cases x; simp only [St.chk, St.body, St.cases, St.els]
theorem Cs.chk_eq (x : Cs) (level : Int) : x.chk level = St.chks x.body level := by cases x; simp only [Cs.chk, Cs.body]
theorem after_assoc (r q p : Nat × Int) : after (after r q) p = after r (after q p) := by
  unfold after
  by_cases h : r.2 = 0 <;> by_cases h2 : q.2 = 0 <;> simp [h, h2, Nat.add_assoc]
theorem after_zero (r : Nat × Int) : after r (0, 0) = r := by
  unfold after
  by_cases h : r.2 = 0
  · simp [h]; ext <;> simp [h]
  · simp [h]
theorem zero_after (r : Nat × Int) : after (0, 0) r = r := by unfold after; simp
theorem St.chks_snoc (l : List St) (x : St) (level : Int) : St.chks (l ++ [x]) level = after (St.chks l level) (x.chk level) := by
  induction l with
  | nil => simp only [List.nil_append, St.chks, after_zero, zero_after]
  | cons y l ih => simp only [List.cons_append, St.chks, ih, after_assoc]
theorem Cs.chks_snoc (l : List Cs) (x : Cs) (level : Int) : Cs.chks (l ++ [x]) level = after (Cs.chks l level) (x.chk level) := by
  induction l with
  | nil => simp only [List.nil_append, Cs.chks, after_zero, zero_after]
  | cons y l ih => simp only [List.cons_append, Cs.chks, ih, after_assoc]
theorem St.chks_append (l m : List St) (level : Int) : St.chks (l ++ m) level = after (St.chks l level) (St.chks m level) := by
  induction l with
  | nil => simp only [List.nil_append, St.chks, zero_after]
  | cons y l ih => simp only [List.cons_append, St.chks, ih, after_assoc]
theorem Cs.chks_append (l m : List Cs) (level : Int) : Cs.chks (l ++ m) level = after (Cs.chks l level) (Cs.chks m level) := by
  induction l with
  | nil => simp only [List.nil_append, Cs.chks, zero_after]
  | cons y l ih => simp only [List.cons_append, Cs.chks, ih, after_assoc]
/-- Once something is wrong, the rest does not matter. -/
theorem St.chks_stop {l : List St} {level : Int} (i : Nat) (h : (St.chks (l.take i) level).2 ≠ 0) : St.chks l level = St.chks (l.take i) level := by
  conv => lhs; rw [← List.take_append_drop i l]
  rw [St.chks_append]
  exact if_pos h
theorem Cs.chks_stop {l : List Cs} {level : Int} (i : Nat) (h : (Cs.chks (l.take i) level).2 ≠ 0) : Cs.chks l level = Cs.chks (l.take i) level := by
  conv => lhs; rw [← List.take_append_drop i l]
  rw [Cs.chks_append]
  exact if_pos h
theorem St.chks_take {l : List St} {i : Nat} {x : St} {level : Int} (h : l[i]? = some x) : St.chks (l.take (i + 1)) level = after (St.chks (l.take i) level) (x.chk level) := by rw [take_next h, St.chks_snoc]
theorem Cs.chks_take {l : List Cs} {i : Nat} {x : Cs} {level : Int} (h : l[i]? = some x) : Cs.chks (l.take (i + 1)) level = after (Cs.chks (l.take i) level) (x.chk level) := by rw [take_next h, Cs.chks_snoc]
end Go.Proofs.YtgcplcffejbniaaGreat

/- The table of statements' fields. -/
namespace Go.Proofs.YtgcplcffejbniaaGreat
open Go.RowKit

def cntV (k : Int) : Value := .agg #[.bool (cntName k), .bool (cntN k), .bool (cntA k), .bool (cntB k), .bool (cntBody k), .bool (cntElse k), .bool (cntCases k)]
set_option maxHeartbeats 4000000 in
theorem counting_any (k : Int) (W : World) : Calls Tryz.prog 80 #[.int .i64 k] W (Gives (.tuple #[cntV k, .bool (knownS k)]) W) := by
  by_cases h1 : k = 1
  · subst h1; go_enter Tryz.func80, Tryz.ntmps80; go_wp2_with fail; go_returns; exact ⟨rfl, (Below.refl _ _).alloc (Nat.le_refl _) _⟩
  by_cases h2 : k = 2
  · subst h2; go_enter Tryz.func80, Tryz.ntmps80; go_wp2_with fail; go_returns; exact ⟨rfl, (Below.refl _ _).alloc (Nat.le_refl _) _⟩
  by_cases h3 : k = 3
  · subst h3; go_enter Tryz.func80, Tryz.ntmps80; go_wp2_with fail; go_returns; exact ⟨rfl, (Below.refl _ _).alloc (Nat.le_refl _) _⟩
  by_cases h4 : k = 4
  · subst h4; go_enter Tryz.func80, Tryz.ntmps80; go_wp2_with fail; go_returns; exact ⟨rfl, (Below.refl _ _).alloc (Nat.le_refl _) _⟩
  by_cases h5 : k = 5
  · subst h5; go_enter Tryz.func80, Tryz.ntmps80; go_wp2_with fail; go_returns; exact ⟨rfl, (Below.refl _ _).alloc (Nat.le_refl _) _⟩
  by_cases h6 : k = 6
  · subst h6; go_enter Tryz.func80, Tryz.ntmps80; go_wp2_with fail; go_returns; exact ⟨rfl, (Below.refl _ _).alloc (Nat.le_refl _) _⟩
  by_cases h7 : k = 7
  · subst h7; go_enter Tryz.func80, Tryz.ntmps80; go_wp2_with fail; go_returns; exact ⟨rfl, (Below.refl _ _).alloc (Nat.le_refl _) _⟩
  by_cases h8 : k = 8
  · subst h8; go_enter Tryz.func80, Tryz.ntmps80; go_wp2_with fail; go_returns; exact ⟨rfl, (Below.refl _ _).alloc (Nat.le_refl _) _⟩
  by_cases h9 : k = 9
  · subst h9; go_enter Tryz.func80, Tryz.ntmps80; go_wp2_with fail; go_returns; exact ⟨rfl, (Below.refl _ _).alloc (Nat.le_refl _) _⟩
  by_cases h10 : k = 10
  · subst h10; go_enter Tryz.func80, Tryz.ntmps80; go_wp2_with fail; go_returns; exact ⟨rfl, (Below.refl _ _).alloc (Nat.le_refl _) _⟩
  have Hv : Hid (cntV k = .agg #[.bool false, .bool false, .bool false, .bool false, .bool false, .bool false, .bool false]) := by show _ = _; simp [cntV, cntName, cntN, cntA, cntB, cntBody, cntElse, cntCases, h1, h2, h3, h4, h5, h6, h7, h9, h10]
  have Hk : Hid (knownS k = false) := by show _ = _; simp only [knownS, decide_eq_false_iff_not]; omega
  go_enter Tryz.func80, Tryz.ntmps80
  go_wp2_with fail
  go_returns
  exact ⟨by rw [Hv.out, Hk.out, show (k == 8) = false by simp [h8]], (Below.refl _ _).alloc (Nat.le_refl _) _⟩
end Go.Proofs.YtgcplcffejbniaaGreat

/- The reference's table of statements' fields. -/
namespace Go.Proofs.YtgcplcffejbniaaGreat
open Go.RowKit

set_option maxHeartbeats 4000000 in
theorem counts_any (k : Int) (W : World) : Calls Tryz.prog 87 #[.int .i64 k] W (Gives (cntV k) W) := by
  by_cases h1 : k = 1
  · subst h1; go_enter Tryz.func87, Tryz.ntmps87; go_wp2_with fail; go_returns; exact ⟨rfl, (Below.refl _ _).alloc (Nat.le_refl _) _⟩
  by_cases h2 : k = 2
  · subst h2; go_enter Tryz.func87, Tryz.ntmps87; go_wp2_with fail; go_returns; exact ⟨rfl, (Below.refl _ _).alloc (Nat.le_refl _) _⟩
  by_cases h3 : k = 3
  · subst h3; go_enter Tryz.func87, Tryz.ntmps87; go_wp2_with fail; go_returns; exact ⟨rfl, (Below.refl _ _).alloc (Nat.le_refl _) _⟩
  by_cases h4 : k = 4
  · subst h4; go_enter Tryz.func87, Tryz.ntmps87; go_wp2_with fail; go_returns; exact ⟨rfl, (Below.refl _ _).alloc (Nat.le_refl _) _⟩
  by_cases h5 : k = 5
  · subst h5; go_enter Tryz.func87, Tryz.ntmps87; go_wp2_with fail; go_returns; exact ⟨rfl, (Below.refl _ _).alloc (Nat.le_refl _) _⟩
  by_cases h6 : k = 6
  · subst h6; go_enter Tryz.func87, Tryz.ntmps87; go_wp2_with fail; go_returns; exact ⟨rfl, (Below.refl _ _).alloc (Nat.le_refl _) _⟩
  by_cases h7 : k = 7
  · subst h7; go_enter Tryz.func87, Tryz.ntmps87; go_wp2_with fail; go_returns; exact ⟨rfl, (Below.refl _ _).alloc (Nat.le_refl _) _⟩
  by_cases h9 : k = 9
  · subst h9; go_enter Tryz.func87, Tryz.ntmps87; go_wp2_with fail; go_returns; exact ⟨rfl, (Below.refl _ _).alloc (Nat.le_refl _) _⟩
  by_cases h10 : k = 10
  · subst h10; go_enter Tryz.func87, Tryz.ntmps87; go_wp2_with fail; go_returns; exact ⟨rfl, (Below.refl _ _).alloc (Nat.le_refl _) _⟩
  have Hv : Hid (cntV k = .agg #[.bool false, .bool false, .bool false, .bool false, .bool false, .bool false, .bool false]) := by show _ = _; simp [cntV, cntName, cntN, cntA, cntB, cntBody, cntElse, cntCases, h1, h2, h3, h4, h5, h6, h7, h9, h10]
  go_enter Tryz.func87, Tryz.ntmps87
  go_wp2_with fail
  go_returns
  exact ⟨by rw [Hv.out], (Below.refl _ _).alloc (Nat.le_refl _) _⟩
end Go.Proofs.YtgcplcffejbniaaGreat

namespace Go.Proofs.YtgcplcffejbniaaGreat
open Go.RowKit

theorem least_any (n : Int) (a : Option Addr) (m cap : Nat) (W : World) : Calls Tryz.prog 111 #[.agg #[.int .i64 n, .slice a m cap]] W (Gives (.bool (n == leastI)) W) := by
  have Hl : Hid (leastI = -9223372036854775808) := rfl
  by_cases h : n = -9223372036854775808
  · have hq : Hid ((n == leastI) = true) := by show _ = _; simp [h, leastI]
    go_enter Tryz.func111, Tryz.ntmps111
    go_wp2_with fail
    go_ret
    exact ⟨by rw [hq.out]; rfl, (Below.refl _ _).alloc (Nat.le_refl _) _⟩
  · have hq : Hid ((n == leastI) = false) := by show _ = _; simp [leastI, h]
    have hb : (n == -9223372036854775808) = false := by simp [h]
    go_enter Tryz.func111, Tryz.ntmps111
    go_wp2_with fail
    go_ret
    exact ⟨by rw [hq.out]; rfl, (Below.refl _ _).alloc (Nat.le_refl _) _⟩
theorem lowest_take {l : List Cs} {i : Nat} {y : Cs} (h : l[i]? = some y) : lowestB (l.take (i + 1)) = (lowestB (l.take i) || (y.n == leastI)) := by rw [take_next h]; simp [lowestB]
theorem lowest_hit {l : List Cs} {i : Nat} {y : Cs} (h : l[i]? = some y) (hy : (y.n == leastI) = true) : lowestB l = true := by
  unfold lowestB
  rw [List.any_eq_true]
  exact ⟨y, List.mem_of_getElem? h, hy⟩
set_option maxHeartbeats 1000000 in
theorem index_any (l : List Cs) (v : Value) (vk : Nat → Value) (W : World) (h : RowOf W v l.length 2 (fun b o i => ∀ y, l[i]? = some y → CsAt W b o y (vk i))) (hf : ∀ (i : Nat) y, l[i]? = some y → ∃ a m cap, vk i = .slice a m cap) :
    Calls Tryz.prog 133 #[v, .func (.func 111) #[] #[]] W (fun e W' => ∃ r : Int, e = .returned (.int .i64 r) ∧ decide (0 ≤ r) = lowestB l ∧ Below W.heap.size W W') := by
  obtain ⟨a, cap, rfl, hncap, hcap⟩ := h.form
  obtain ⟨n, hn⟩ : ∃ n, n = l.length := ⟨_, rfl⟩
  have Hn := Lib.hid hn
  have Hrow : Hid (RowOf W (.slice a n cap) l.length 2 (fun b o i => ∀ y, l[i]? = some y → CsAt W b o y (vk i))) := by rw [hn]; exact h
  have Hf := Lib.hid hf
  rw [← hn]
  rw [← hn] at hncap
  have hn62 : n ≤ 9223372036854775807 := by have : maxLen ≤ 9223372036854775807 := by decide
                                            omega
  clear h hf hn
  go_enter Tryz.func133, Tryz.ntmps133
  go_wp2_with fail
  go_loopg [5, 8] n (fun g _ iv wx => ∃ i : Nat, g = n - i ∧ iv = .int .i64 (i : Int) ∧ i ≤ n ∧ lowestB (l.take i) = false ∧ Below W.heap.size W wx)
  case atStart => exact ⟨0, rfl, rfl, Nat.zero_le _, rfl, Below.refl _ _⟩
  case round =>
    obtain ⟨i, hg, rfl, hi, hp, hO⟩ := hrel
    have HK := Lib.hid (And.intro hp hO)
    have Hg := Lib.hid hg
    clear hp hg
    by_cases hin : i < n
    · obtain ⟨y, hy⟩ : ∃ y, l[i]? = some y := ⟨_, List.getElem?_eq_getElem (by rw [← Hn.out]; exact hin)⟩
      obtain ⟨b, off, rfl, hb, hP⟩ := Hrow.out.at (i := i) (by rw [← Hn.out]; exact hin)
      have hcs := (hP y hy).later hO hb
      obtain ⟨a', m', cap', hv⟩ := Hf.out i y hy
      rw [hv] at hcs
      obtain ⟨c0, c1⟩ := hcs
      have Hy := Lib.hid hy
      clear hy hP hv hO
      go_wp2_with fail
      refine (least_any _ _ _ _ _).mono ?_
      rintro e w2 ⟨rfl, hb2⟩
      obtain ⟨z, hz⟩ : ∃ z, z = (y.n == leastI) := ⟨_, rfl⟩
      have Hz := Lib.hid hz
      rw [← hz]
      have Hb2 := Lib.hid (HK.out.2.trans (hb2.mono HK.out.2.size))
      clear hz hb2 c0 c1
      cases z
      · go_wp2_with fail
        go_roundg (n - (i + 1))
        case measure => have := Hg.out; omega
        case rel => exact ⟨i + 1, rfl, by go_num, hin, by rw [lowest_take Hy.out, HK.out.1, ← Hz.out]; rfl, Hb2.out⟩
      · go_wp2_with fail
        go_ret
        exact ⟨i, rfl, by rw [lowest_hit Hy.out Hz.out.symm]; simp, Hb2.out⟩
    · obtain rfl : n = i := by omega
      have Hres : Hid (lowestB l = false) := by
        show _ = _
        have h := HK.out.1
        rw [List.take_of_length_le (by rw [← Hn.out]; exact Nat.le_refl _)] at h
        exact h
      clear hO hin
      go_wp2_with fail
      go_ret
      exact ⟨-1, rfl, by rw [Hres.out]; rfl, HK.out.2⟩
theorem contains_any (l : List Cs) (v : Value) (vk : Nat → Value) (W : World) (h : RowOf W v l.length 2 (fun b o i => ∀ y, l[i]? = some y → CsAt W b o y (vk i))) (hf : ∀ (i : Nat) y, l[i]? = some y → ∃ a m cap, vk i = .slice a m cap) :
    Calls Tryz.prog 110 #[v, .func (.func 111) #[] #[]] W (Gives (.bool (lowestB l)) W) := by
  obtain ⟨a, cap, rfl, -⟩ := h.form
  have H := Lib.hid (And.intro h hf)
  clear h hf
  go_enter Tryz.func110, Tryz.ntmps110
  go_wp2_with fail
  refine (index_any l _ vk W H.out.1 H.out.2).mono ?_
  rintro e w2 ⟨r, rfl, hr, hb⟩
  have Hr := Lib.hid (And.intro hr hb)
  clear hr hb
  by_cases h0 : 0 ≤ r
  · have hq : Hid (lowestB l = true) := by show _ = _; rw [← Hr.out.1]; exact decide_eq_true h0
    go_wp2_with fail
    go_ret
    exact ⟨by rw [hq.out]; simp, Hr.out.2⟩
  · have hq : Hid (lowestB l = false) := by show _ = _; rw [← Hr.out.1]; exact decide_eq_false h0
    go_wp2_with fail
    go_ret
    exact ⟨by rw [hq.out]; simp [h0], Hr.out.2⟩
set_option maxHeartbeats 1000000 in
theorem rlowest_any (l : List Cs) (v : Value) (vk : Nat → Value) (W : World) (h : RowOf W v l.length 2 (fun b o i => ∀ y, l[i]? = some y → CsAt W b o y (vk i))) :
    Calls Tryz.prog 89 #[v] W (fun e W' => e = .returned (.bool (lowestB l)) ∧ W = W') := by
  obtain ⟨a, cap, rfl, hncap, hcap⟩ := h.form
  obtain ⟨n, hn⟩ : ∃ n, n = l.length := ⟨_, rfl⟩
  have Hn := Lib.hid hn
  have Hrow : Hid (RowOf W (.slice a n cap) l.length 2 (fun b o i => ∀ y, l[i]? = some y → CsAt W b o y (vk i))) := by rw [hn]; exact h
  rw [← hn]
  rw [← hn] at hncap
  have hn62 : n ≤ 9223372036854775807 := by have : maxLen ≤ 9223372036854775807 := by decide
                                            omega
  clear h hn
  go_enter Tryz.func89, Tryz.ntmps89
  go_wp2_with fail
  go_loopg [3] n (fun g iv wx => ∃ i : Nat, g = n - i ∧ iv = .int .i64 (i : Int) ∧ i ≤ n ∧ lowestB (l.take i) = false ∧ wx = W)
  case atStart => exact ⟨0, rfl, rfl, Nat.zero_le _, rfl, rfl⟩
  case round =>
    obtain ⟨i, hg, rfl, hi, hp, rfl⟩ := hrel
    have HK := Lib.hid hp
    have Hg := Lib.hid hg
    clear hp hg
    by_cases hin : i < n
    · obtain ⟨y, hy⟩ : ∃ y, l[i]? = some y := ⟨_, List.getElem?_eq_getElem (by rw [← Hn.out]; exact hin)⟩
      obtain ⟨b, off, rfl, hb, hP⟩ := Hrow.out.at (i := i) (by rw [← Hn.out]; exact hin)
      obtain ⟨c0, c1⟩ := hP y hy
      have Hy := Lib.hid hy
      clear hy hP c1
      by_cases hz : y.n = -9223372036854775808
      · have Hz : Hid ((y.n == leastI) = true) := by show _ = _; simp [leastI, hz]
        have hq : (y.n == -9223372036854775808) = true := by simp [hz]
        go_wp2_with fail
        go_ret
        exact ⟨by rw [lowest_hit Hy.out Hz.out]; rfl, rfl⟩
      · have Hz : Hid ((y.n == leastI) = false) := by show _ = _; simp [leastI, hz]
        have hq : (y.n == -9223372036854775808) = false := by simp [hz]
        go_wp2_with fail
        go_roundg (n - (i + 1))
        case measure => have := Hg.out; omega
        case rel => exact ⟨i + 1, rfl, by go_num, hin, by rw [lowest_take Hy.out, HK.out, Hz.out]; rfl, rfl⟩
    · obtain rfl : n = i := by omega
      have Hres : Hid (lowestB l = false) := by
        show _ = _
        have h := HK.out
        rw [List.take_of_length_le (by rw [← Hn.out]; exact Nat.le_refl _)] at h
        exact h
      clear hin
      go_wp2_with fail
      go_ret
      exact ⟨by rw [Hres.out]; rfl, rfl⟩
end Go.Proofs.YtgcplcffejbniaaGreat
