/- names: functions behind one do not matter. -/
import Derived.Test.YtgobcldecokppaaDoorNmFlt
namespace Go.Proofs.YtgobcldecokppaaDoor
open Go.RowKit Go.Maps

theorem Fn.nfault_at (f : Fn) (G : List ByteArray) (i : Nat) (h : (f.nfault G i).1 ≠ 0) : (f.nfault G i).2.1 = (i : Int) := by
  unfold Fn.nfault at h ⊢
  split
  · rfl
  · split
    · rfl
    · rename_i h1 h2
      rw [if_neg h1, if_neg h2] at h
      exact absurd rfl h
theorem gAt_take (l : List Fn) {n j : Nat} (h : j ≤ n) : gAt (l.take n) j = gAt l j := by unfold gAt; rw [List.take_take, Nat.min_eq_left h]
/-- Either no function is wrong, or one is first. -/
theorem Fn.nfaults_cases (l : List Fn) (G : List ByteArray) (k : Nat) :
    (∀ (j : Nat) y, l[j]? = some y → (y.nfault (G ++ gAt l j) (k + j)).1 = 0) ∨ ∃ (i : Nat) (x : Fn), l[i]? = some x ∧ (∀ (j : Nat) (y : Fn), j < i → l[j]? = some y → (y.nfault (G ++ gAt l j) (k + j)).1 = 0) ∧ (x.nfault (G ++ gAt l i) (k + i)).1 ≠ 0 := by
  have key : ∀ n : Nat, (∀ (j : Nat) (y : Fn), j < n → l[j]? = some y → (y.nfault (G ++ gAt l j) (k + j)).1 = 0) ∨ ∃ (i : Nat) (x : Fn), l[i]? = some x ∧ (∀ (j : Nat) (y : Fn), j < i → l[j]? = some y → (y.nfault (G ++ gAt l j) (k + j)).1 = 0) ∧ (x.nfault (G ++ gAt l i) (k + i)).1 ≠ 0 := by
    intro n
    induction n with
    | zero => exact .inl fun j y h => absurd h (Nat.not_lt_zero _)
    | succ n ih =>
      rcases ih with h | h
      · cases hx : l[n]? with
        | none =>
          refine .inl fun j y hj hy => ?_
          by_cases e : j = n
          · subst e; rw [hx] at hy; cases hy
          · exact h j y (by omega) hy
        | some x =>
          by_cases hz : (x.nfault (G ++ gAt l n) (k + n)).1 = 0
          · refine .inl fun j y hj hy => ?_
            by_cases e : j = n
            · subst e; rw [hx] at hy; cases hy; exact hz
            · exact h j y (by omega) hy
          · exact .inr ⟨n, x, hx, h, hz⟩
      · exact .inr h
  rcases key l.length with h | h
  · exact .inl fun j y hy => h j y (List.getElem?_eq_some_iff.1 hy).1 hy
  · exact .inr h
theorem Fn.nfaults_take (l : List Fn) (n : Nat) : ((Fn.nfaults l [] 0).1 = 0 → Fn.nfaults (l.take n) [] 0 = (0, 0, 0)) ∧ ((Fn.nfaults l [] 0).1 ≠ 0 → (((Fn.nfaults l [] 0).2.1 < (n : Int) → Fn.nfaults (l.take n) [] 0 = Fn.nfaults l [] 0) ∧ ((n : Int) ≤ (Fn.nfaults l [] 0).2.1 → Fn.nfaults (l.take n) [] 0 = (0, 0, 0)))) := by
  have ht : ∀ {j : Nat} {y : Fn}, (l.take n)[j]? = some y → j < n ∧ l[j]? = some y := fun {j y} h => by
    have hj : j < n := by have := (List.getElem?_eq_some_iff.1 h).1; simp at this; omega
    rw [List.getElem?_take_of_lt hj] at h
    exact ⟨hj, h⟩
  rcases Fn.nfaults_cases l [] 0 with h | ⟨i, x, hx, h0, hz⟩
  · have e : Fn.nfaults l [] 0 = (0, 0, 0) := Fn.nfaults_none h
    rw [e]
    refine ⟨fun _ => Fn.nfaults_none fun j y hy => ?_, fun h => absurd rfl h⟩
    obtain ⟨hj, hy2⟩ := ht hy
    rw [gAt_take l (by omega)]
    exact h j y hy2
  · have e : Fn.nfaults l [] 0 = x.nfault ([] ++ gAt l i) (0 + i) := Fn.nfaults_hit hx h0 hz
    rw [e]
    refine ⟨fun h => absurd h hz, fun _ => ⟨fun hl => ?_, fun hl => ?_⟩⟩
    · rw [Fn.nfault_at _ _ _ hz] at hl
      have hin : i < n := by omega
      rw [← gAt_take l (Nat.le_of_lt hin)]
      refine Fn.nfaults_hit (by rw [List.getElem?_take_of_lt hin]; exact hx) (fun j y hj hy => ?_) (by rw [gAt_take l (Nat.le_of_lt hin)]; exact hz)
      obtain ⟨hj2, hy2⟩ := ht hy
      rw [gAt_take l (by omega)]
      exact h0 j y hj hy2
    · rw [Fn.nfault_at _ _ _ hz] at hl
      refine Fn.nfaults_none fun j y hy => ?_
      obtain ⟨hj2, hy2⟩ := ht hy
      rw [gAt_take l (by omega)]
      exact h0 j y (by omega) hy2
/-- The program's first functions alone. -/
def Pg.first (p : Pg) (n : Nat) : Pg := ⟨p.widen, p.funcs.take n⟩
theorem Pg.first_fault {p : Pg} (n : Nat) (h : p.fault.1 = 0) : (p.first n).fault = (0, 0, 0) := by
  unfold Pg.fault at h ⊢
  by_cases h0 : p.headErr = 0
  · rw [if_neg (by rw [h0]; decide)] at h
    obtain ⟨h1, h2⟩ := Pg.head_ok h0
    have e : (p.first n).headErr = 0 := by
      unfold Pg.headErr at h0 ⊢
      have c := Fn.count_le (l := p.funcs) n
      show (if 16 < p.widen.length then 3 else if leastB p.widen = true then 1 else if riseB p.widen = false then 66 else if 32 < (p.funcs.take n).length ∨ 4096 < upto (Fn.count (p.funcs.take n)) then 3 else 0) = 0
      split at h0
      · omega
      rename_i a1
      rw [if_neg a1]
      split at h0
      · omega
      rename_i a2
      rw [if_neg a2]
      split at h0
      · omega
      rename_i a3
      rw [if_neg a3, if_neg]
      rintro (h | h)
      · simp at h; omega
      · unfold upto at h; omega
    rw [if_neg (by rw [e]; decide)]
    refine Fn.faults_none fun j y hy => ?_
    have hj : j < n := by have := (List.getElem?_eq_some_iff.1 hy).1; simp [Pg.first] at this; omega
    have hy2 : p.funcs[j]? = some y := by
      have h : (p.funcs.take n)[j]? = some y := hy
      rwa [List.getElem?_take_of_lt hj] at h
    exact Fn.faults_all h j y hy2
  · rw [if_pos h0] at h; exact absurd h h0
theorem Pg.nfault_ok {p : Pg} (h : p.fault.1 = 0) : p.nfault = Fn.nfaults p.funcs [] 0 := by unfold Pg.nfault; rw [if_neg (by rw [h]; decide)]
theorem Pg.first_nfault {p : Pg} (n : Nat) (h : p.fault.1 = 0) : (p.nfault.1 = 0 → (p.first n).nfault = (0, 0, 0)) ∧ (p.nfault.1 ≠ 0 → ((p.nfault.2.1 < (n : Int) → (p.first n).nfault = p.nfault) ∧ ((n : Int) ≤ p.nfault.2.1 → (p.first n).nfault = (0, 0, 0)))) := by
  rw [Pg.nfault_ok h, Pg.nfault_ok (p := p.first n) (by rw [Pg.first_fault n h])]
  exact Fn.nfaults_take p.funcs n
theorem Pg.nfault_bad {p : Pg} (h : p.fault.1 ≠ 0) : p.nfault = p.fault := by unfold Pg.nfault; rw [if_pos h]
theorem PgIn.first {w : World} {p : Pg} {vw : Value} {a : Option Addr} {m cap : Nat} {vp vb : Nat → Value} (h : PgIn w p vw (.slice a m cap) vp vb) {n : Nat} (hn : n ≤ p.funcs.length) : PgIn w (p.first n) vw (.slice a n n) vp vb := by
  have hl : (p.funcs.take n).length = n := by simp; omega
  have ht : ∀ {j : Nat} {y : Fn}, (p.funcs.take n)[j]? = some y → p.funcs[j]? = some y := fun {j y} h => by
    have hj : j < n := by have := (List.getElem?_eq_some_iff.1 h).1; omega
    rwa [List.getElem?_take_of_lt hj] at h
  refine ⟨h.widen, ⟨?_, fun i x hx => h.funcs.params i x (ht hx), fun i x hx => h.funcs.body i x (ht hx)⟩⟩
  obtain ⟨a', cap', h1, h2, h3, h4, h5⟩ := h.funcs.row
  cases h1
  show RowOf w (.slice a n n) (p.funcs.take n).length 3 (fun b o i => ∀ x, (p.funcs.take n)[i]? = some x → FnCells w b o x (vp i) (vb i))
  rw [hl]
  refine ⟨a, n, rfl, Nat.le_refl _, by omega, fun e => by have := h4 e; omega, fun h0 => ?_⟩
  obtain ⟨b, off, e, hb, hp⟩ := h5 (by omega)
  exact ⟨b, off, e, hb, fun i hi x hx => hp i (by omega) x (ht hx)⟩
/-- Each function of a right program is right by itself. -/
theorem Pg.nfault_all {p : Pg} (h1 : p.fault.1 = 0) (h : p.nfault.1 = 0) (i : Nat) (x : Fn) (hx : p.funcs[i]? = some x) : (x.nfault (gAt p.funcs i) i).1 = 0 := by
  rw [Pg.nfault_ok h1] at h
  rcases Fn.nfaults_cases p.funcs [] 0 with h2 | ⟨j, y, hy, h0, hz⟩
  · simpa using h2 i x hx
  · rw [Fn.nfaults_hit hy h0 hz] at h
    exact absurd h hz
theorem Fn.right {f : Fn} {G : List ByteArray} {i : Nat} (h : (f.nfault G i).1 = 0) : f.name ∉ G ∧ twiceB f.params [] = false ∧ (St.nchks (parK f.params) G 0 f.body).2 = 0 := by
  unfold Fn.nfault at h
  split at h
  · simp at h
  · rename_i h1
    split at h
    · rename_i h2; exact absurd h h2
    · rename_i h2
      exact ⟨fun hc => h1 (.inl hc), by simpa using fun hc => h1 (.inr hc), by simpa using h2⟩
end Go.Proofs.YtgobcldecokppaaDoor
