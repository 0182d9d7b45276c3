/- R2.Check: what is wrong first with a program. -/
import Derived.Test.YtgobcldecokppaaDoorTrChkS
import Derived.StillTailTactics
/- R2's look at statements. -/
namespace Go.Proofs.YtgobcldecokppaaDoor
open Go.RowKit

def goN (e : Int) (k : Nat) : Int := if e = 0 then (k : Int) else 0
theorem goN_zero (k : Nat) : goN 0 k = k := rfl
theorem goN_no {e : Int} (h : e ≠ 0) (k : Nat) : goN e k = 0 := if_neg h
/-- What is wrong with a statement itself, at a level. -/
def St.fown (x : St) (level : Int) : Int := if 32 < level then 20 else x.own
theorem St.front_eq (x : St) (level : Int) : x.front level = keepE (keepE (x.fown level) (if cntA x.kind = true then x.a.err (level + 1) else 0)) (if cntB x.kind = true then x.b.err (level + 1) else 0) := by
  unfold St.front St.fown keepE
  by_cases h : 32 < level
  · simp [h]
  · simp only [h, if_false]
    by_cases ho : x.own = 0
    · simp only [ho, ne_eq, not_true_eq_false, if_false]
      cases cntA x.kind <;> cases cntB x.kind <;> simp <;> (try (split <;> simp_all)) <;> (try exact fun h => h.symm)
    · simp [ho]
theorem KAt.after {W : World} {c : Nat} {n : Int} {r q : Nat × Int} (h : KAt W c (n + (r.1 : Int) + goN r.2 q.1) (keepE r.2 q.2)) : KAt W c (n + ((after r q).1 : Int)) (after r q).2 := by
  by_cases he : r.2 = 0
  · rw [after_ok he]
    rw [he, goN_zero, keepE_zero] at h
    exact h.to (by simp only; omega)
  · rw [after_err he]
    rw [goN_no he, keepE_no he] at h
    exact h.to (by omega)
theorem after_zero2 {r q : Nat × Int} (h : (after r q).2 = 0) : r.2 = 0 := by
  by_cases he : r.2 = 0
  · exact he
  · rw [after_err he] at h; exact h
end Go.Proofs.YtgobcldecokppaaDoor

/- What is wrong with a program's thresholds and counts. -/
namespace Go.Proofs.YtgobcldecokppaaDoor
open Go.RowKit

theorem IntsIn.row {w : World} {v : Value} {l : List Int} (h : IntsIn w v l) : RowOf w v l.length 1 (fun b o i => ∀ x, l[i]? = some x → w.cell? ⟨b, o, none⟩ = some (.int .i64 x)) := by
  obtain ⟨_, a, cap, rfl, h2, h3, h4, h5⟩ := h
  exact ⟨a, cap, rfl, h2, h3, h4, fun h0 => by
    obtain ⟨b, off, e, hb, hc⟩ := h5 h0
    exact ⟨b, off, e, hb, fun i _ x hx => by rw [Nat.mul_one]; exact hc i _ (by simp [intVs, hx])⟩⟩
def leastB (l : List Int) : Bool := l.any fun y => y == leastI
theorem leastB_take {l : List Int} {i : Nat} {y : Int} (h : l[i]? = some y) : leastB (l.take (i + 1)) = (leastB (l.take i) || (y == leastI)) := by rw [take_next h]; simp [leastB]
theorem leastB_hit {l : List Int} {i : Nat} {y : Int} (h : l[i]? = some y) (hy : (y == leastI) = true) : leastB l = true := by
  unfold leastB
  rw [List.any_eq_true]
  exact ⟨y, List.mem_of_getElem? h, hy⟩
def riseB : List Int → Bool
  | a :: b :: l => decide (a < b) && riseB (b :: l)
  | _ => true
theorem riseB_all {l : List Int} (h : ∀ (i : Nat) a b, l[i]? = some a → l[i + 1]? = some b → a < b) : riseB l = true := by
  induction l with
  | nil => rfl
  | cons a l ih =>
    cases l with
    | nil => rfl
    | cons b l =>
      simp only [riseB, Bool.and_eq_true, decide_eq_true_eq]
      exact ⟨h 0 a b rfl rfl, ih fun i x y hx hy => h (i + 1) x y (by simpa using hx) (by simpa using hy)⟩
theorem riseB_no {l : List Int} {i : Nat} {a b : Int} (ha : l[i]? = some a) (hb : l[i + 1]? = some b) (hn : ¬ a < b) : riseB l = false := by
  induction l generalizing i with
  | nil => simp at ha
  | cons x l ih =>
    cases l with
    | nil => simp at hb
    | cons y l =>
      cases i with
      | zero =>
        simp at ha hb
        subst ha; subst hb
        simp [riseB, hn]
      | succ i =>
        have := ih (i := i) (by simpa using ha) (by simpa using hb)
        simp [riseB, this]
/-- What is wrong ahead of the functions. -/
def Pg.headErr (p : Pg) : Int := if 16 < p.widen.length then 3 else if leastB p.widen = true then 1 else if riseB p.widen = false then 66 else if 32 < p.funcs.length ∨ 4096 < upto (Fn.count p.funcs) then 3 else 0
set_option maxHeartbeats 1000000 in
theorem indexI_any (l : List Int) (v : Value) (W : World) (h : IntsIn W v l) :
    Calls Tryd.prog 51 #[v, .int .i64 (-9223372036854775808)] W (fun e W' => ∃ r : Int, e = .returned (.int .i64 r) ∧ decide (0 ≤ r) = leastB l ∧ W = W') := by
  have h := h.row
  obtain ⟨a, cap, rfl, hncap, hcap⟩ := h.form
  obtain ⟨n, hn⟩ : ∃ n, n = l.length := ⟨_, rfl⟩
  have Hn := Lib.hid hn
  have Hrow : Hid (RowOf W (.slice a n cap) l.length 1 (fun b o i => ∀ x, l[i]? = some x → W.cell? ⟨b, o, none⟩ = some (.int .i64 x))) := by rw [hn]; exact h
  rw [← hn]
  rw [← hn] at hncap
  have hn62 : n ≤ 9223372036854775807 := by have : maxLen ≤ 9223372036854775807 := by decide
                                            omega
  clear h hn
  go_enter Tryd.func51, Tryd.ntmps51
  go_wp2_with fail
  go_loopg [5, 8] n (fun g _ iv wx => ∃ i : Nat, g = n - i ∧ iv = .int .i64 (i : Int) ∧ i ≤ n ∧ leastB (l.take i) = false ∧ wx = W)
  case atStart => exact ⟨0, rfl, rfl, Nat.zero_le _, rfl, rfl⟩
  case round =>
    obtain ⟨i, hg, rfl, hi, hp, rfl⟩ := hrel
    have HK := Lib.hid hp
    have Hg := Lib.hid hg
    clear hp hg
    by_cases hin : i < n
    · obtain ⟨y, hy⟩ : ∃ y, l[i]? = some y := ⟨_, List.getElem?_eq_getElem (by rw [← Hn.out]; exact hin)⟩
      obtain ⟨b, off, rfl, hb, hP⟩ := Hrow.out.at (i := i) (by rw [← Hn.out]; exact hin)
      have hcs := hP y hy
      have Hy := Lib.hid hy
      simp only [Nat.mul_one] at hcs
      clear hy hP
      by_cases hz : y = -9223372036854775808
      · have Hz : Hid ((y == leastI) = true) := by show _ = _; simp [leastI, hz]
        subst hz
        go_wp2_with fail
        go_ret
        exact ⟨i, rfl, by rw [leastB_hit Hy.out Hz.out]; simp, rfl⟩
      · have Hz : Hid ((y == leastI) = false) := by show _ = _; simp [leastI, hz]
        have hq : (-9223372036854775808 == y) = false := by simp; omega
        have hq2 : (y == -9223372036854775808) = false := by simp [hz]
        go_wp2_with fail
        go_roundg (n - (i + 1))
        case measure => have := Hg.out; omega
        case rel => exact ⟨i + 1, rfl, by go_num, hin, by rw [leastB_take Hy.out, HK.out, Hz.out]; rfl, rfl⟩
    · obtain rfl : n = i := by omega
      have Hres : Hid (leastB l = false) := by
        show _ = _
        have h := HK.out
        rw [List.take_of_length_le (by rw [← Hn.out]; exact Nat.le_refl _)] at h
        exact h
      clear hin
      go_wp2_with fail
      go_ret
      exact ⟨-1, rfl, by rw [Hres.out]; rfl, rfl⟩
theorem containsI_any (l : List Int) (v : Value) (W : World) (h : IntsIn W v l) :
    Calls Tryd.prog 45 #[v, .int .i64 (-9223372036854775808)] W (fun e W' => e = .returned (.bool (leastB l)) ∧ W = W') := by
  have H := Lib.hid h
  obtain ⟨-, a, cap, rfl, -⟩ := h
  go_enter Tryd.func45, Tryd.ntmps45
  go_wp2_with fail
  refine (indexI_any l _ W H.out).mono ?_
  rintro e w2 ⟨r, rfl, hr, hb⟩
  rw [← hb]
  have Hr := Lib.hid hr
  clear hr hb
  by_cases h0 : 0 ≤ r
  · have hq : Hid (leastB l = true) := by show _ = _; rw [← Hr.out]; exact decide_eq_true h0
    go_wp2_with fail
    go_ret
    exact ⟨by rw [hq.out]; simp, rfl⟩
  · have hq : Hid (leastB l = false) := by show _ = _; rw [← Hr.out]; exact decide_eq_false h0
    go_wp2_with fail
    go_ret
    exact ⟨by rw [hq.out]; simp [h0], rfl⟩
end Go.Proofs.YtgobcldecokppaaDoor

/- R2's look at a program's thresholds and counts. -/
namespace Go.Proofs.YtgobcldecokppaaDoor
open Go.RowKit

end Go.Proofs.YtgobcldecokppaaDoor

namespace Go.Proofs.YtgobcldecokppaaDoor
open Go.RowKit

abbrev Flt := Int × Int × Int
def fltV (t : Flt) : Value := .agg #[.int .i64 t.1, .int .i64 t.2.1, .int .i64 t.2.2]
def Fn.fault (f : Fn) (i : Nat) : Flt := if f.face ≠ 0 then (f.face, (i : Int), 0) else if (St.chks f.body 1).2 ≠ 0 then ((St.chks f.body 1).2, (i : Int), ((St.chks f.body 1).1 : Int)) else (0, 0, 0)
def Fn.faults : List Fn → Nat → Flt
  | [], _ => (0, 0, 0)
  | f :: l, i => if (f.fault i).1 ≠ 0 then f.fault i else Fn.faults l (i + 1)
/-- What is wrong first with a program's form. -/
def Pg.fault (p : Pg) : Flt := if p.headErr ≠ 0 then (p.headErr, 0, 0) else Fn.faults p.funcs 0
theorem Fn.faults_hit {l : List Fn} {i k : Nat} {x : Fn} (h : l[i]? = some x) (hn : ∀ j y, j < i → l[j]? = some y → (y.fault (k + j)).1 = 0) (he : (x.fault (k + i)).1 ≠ 0) : Fn.faults l k = x.fault (k + i) := by
  induction l generalizing i k with
  | nil => simp at h
  | cons y l ih =>
    cases i with
    | zero => simp at h; subst h; simp only [Fn.faults, Nat.add_zero]; exact if_pos he
    | succ i =>
      have h0 := hn 0 y (by omega) rfl
      simp only [Fn.faults, Nat.add_zero] at h0 ⊢
      rw [if_neg (by rw [h0]; decide)]
      have := ih (i := i) (k := k + 1) (by simpa using h) (fun j z hj hz => by rw [Nat.add_assoc, Nat.add_comm 1 j]; exact hn (j + 1) z (by omega) (by simpa using hz)) (by rw [Nat.add_assoc, Nat.add_comm 1 i]; exact he)
      rw [this, Nat.add_assoc, Nat.add_comm 1 i]
theorem Fn.faults_none {l : List Fn} {k : Nat} (hn : ∀ (j : Nat) y, l[j]? = some y → (y.fault (k + j)).1 = 0) : Fn.faults l k = (0, 0, 0) := by
  induction l generalizing k with
  | nil => rfl
  | cons y l ih =>
    have h0 := hn 0 y rfl
    simp only [Nat.add_zero] at h0
    simp only [Fn.faults]
    rw [if_neg (by rw [h0]; decide)]
    exact ih fun j z hz => by rw [Nat.add_assoc, Nat.add_comm 1 j]; exact hn (j + 1) z (by simpa using hz)
theorem Pg.head_ok {p : Pg} (h : p.headErr = 0) : p.funcs.length ≤ 32 ∧ Fn.count p.funcs ≤ 4096 := by
  unfold Pg.headErr at h
  split at h
  · omega
  split at h
  · omega
  split at h
  · omega
  split at h
  · omega
  rename_i hn
  unfold upto at hn
  constructor <;> omega
/-- A Check's own blocks: its program, its answer. -/
structure CkAt (w : World) (B : Nat) (vw vf : Value) : Prop where
  c0 : w.cell? ⟨B, 0, none⟩ = some vw
  c1 : w.cell? ⟨B, 1, none⟩ = some vf
  r0 : w.cell? ⟨B + 1, 0, none⟩ = some (.int .i64 0)
  r1 : w.cell? ⟨B + 1, 1, none⟩ = some (.int .i64 0)
  r2 : w.cell? ⟨B + 1, 2, none⟩ = some (.int .i64 0)
  z0 : w.frozen? ⟨B + 1, 0, none⟩ = false
  z1 : w.frozen? ⟨B + 1, 1, none⟩ = false
  z2 : w.frozen? ⟨B + 1, 2, none⟩ = false
theorem CkAt.later {w w' : World} {B : Nat} {vw vf : Value} (h : CkAt w B vw vf) (hb : Below w.heap.size w w') : CkAt w' B vw vf :=
  have q1 := block_lt_of_cell h.c0
  have q2 := block_lt_of_cell h.r0
  ⟨(hb.cell (p := ⟨B, 0, none⟩) q1).trans h.c0, (hb.cell (p := ⟨B, 1, none⟩) q1).trans h.c1, (hb.cell (p := ⟨B + 1, 0, none⟩) q2).trans h.r0, (hb.cell (p := ⟨B + 1, 1, none⟩) q2).trans h.r1, (hb.cell (p := ⟨B + 1, 2, none⟩) q2).trans h.r2,
    (hb.frozen (p := ⟨B + 1, 0, none⟩) q2).trans h.z0, (hb.frozen (p := ⟨B + 1, 1, none⟩) q2).trans h.z1, (hb.frozen (p := ⟨B + 1, 2, none⟩) q2).trans h.z2⟩
/-- An answer is written. -/
theorem CkAt.answer {w : World} {B : Nat} {vw vf : Value} (h : CkAt w B vw vf) (t : Flt) : ∀ w9, w9 = ((w.setCell ⟨B + 1, 0, none⟩ (.int .i64 t.1)).setCell ⟨B + 1, 1, none⟩ (.int .i64 t.2.1)).setCell ⟨B + 1, 2, none⟩ (.int .i64 t.2.2) →
    w9.cell? ⟨B + 1, 0, none⟩ = some (.int .i64 t.1) ∧ w9.cell? ⟨B + 1, 1, none⟩ = some (.int .i64 t.2.1) ∧ w9.cell? ⟨B + 1, 2, none⟩ = some (.int .i64 t.2.2) ∧ Oth (· = B + 1) w w9 := by
  rintro w9 rfl
  refine ⟨?_, ?_, World.cell?_setCell_same' _ _ _ ?_, (((Oth.refl (· = B + 1) w).set (p := ⟨B + 1, 0, none⟩) rfl _).set (p := ⟨B + 1, 1, none⟩) rfl _).set (p := ⟨B + 1, 2, none⟩) rfl _⟩
  · rw [World.cell?_setCell_other _ _ _ _ (by simp), World.cell?_setCell_other _ _ _ _ (by simp)]
    exact World.cell?_setCell_same' _ _ _ (by rw [h.r0]; rfl)
  · rw [World.cell?_setCell_other _ _ _ _ (by simp)]
    exact World.cell?_setCell_same' _ _ _ (by rw [World.cell?_setCell_other _ _ _ _ (by simp), h.r1]; rfl)
  · rw [World.cell?_setCell_other _ _ _ _ (by simp), World.cell?_setCell_other _ _ _ _ (by simp), h.r2]; rfl
end Go.Proofs.YtgobcldecokppaaDoor
