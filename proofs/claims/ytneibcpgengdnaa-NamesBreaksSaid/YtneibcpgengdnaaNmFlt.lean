/- names: what the form's check says of a program; which function is wrong first. -/
import Derived.Test.YtneibcpgengdnaaNmList
namespace Go.Proofs.Ytneibcpgengdnaa
open Go.RowKit Go.Maps

theorem Fn.faults_all {l : List Fn} {k : Nat} (h : (Fn.faults l k).1 = 0) : ∀ (i : Nat) x, l[i]? = some x → (x.fault (k + i)).1 = 0 := by
  induction l generalizing k with
  | nil => intro i x hx; simp at hx
  | cons y l ih =>
    simp only [Fn.faults] at h
    by_cases h0 : (y.fault k).1 = 0
    · rw [if_neg (by rw [h0]; decide)] at h
      intro i x hx
      cases i with
      | zero => simp at hx; subst hx; exact h0
      | succ i => rw [Nat.add_comm i 1, ← Nat.add_assoc]; exact ih h i x (by simpa using hx)
    · rw [if_pos h0] at h; exact absurd h h0
theorem size_of_nameB {s : ByteArray} (h : nameB s = true) : s.size ≤ 16 := by
  unfold nameB at h
  simp only [Bool.and_eq_true, decide_eq_true_eq] at h
  exact h.1.1.1.1
theorem Pm.errs_all {l : List Pm} (h : Pm.errs l = 0) : ∀ x ∈ l, x.err = 0 := by
  induction l with
  | nil => intro x hx; cases hx
  | cons y l ih =>
    simp only [Pm.errs] at h
    by_cases h0 : y.err = 0
    · rw [if_neg (by rw [h0]; decide)] at h
      intro x hx
      rcases List.mem_cons.1 hx with rfl | hx
      · exact h0
      · exact ih h x hx
    · rw [if_pos h0] at h; exact absurd h h0
/-- A function whose form is right. -/
structure Fn.Good (f : Fn) : Prop where
  name : f.name.size ≤ 16
  few : f.params.length ≤ 8
  params : ∀ y ∈ f.params, y.name.size ≤ 16
  body : St.fines f.body
  total : St.totals f.body ≤ 4096
theorem Pg.good {p : Pg} (h : p.fault.1 = 0) : p.funcs.length ≤ 32 ∧ ∀ (i : Nat) f, p.funcs[i]? = some f → f.Good := by
  unfold Pg.fault at h
  by_cases h0 : p.headErr = 0
  · rw [if_neg (by rw [h0]; decide)] at h
    obtain ⟨h1, h2⟩ := Pg.head_ok h0
    refine ⟨h1, fun i f hf => ?_⟩
    have h3 := Fn.faults_all h i f hf
    unfold Fn.fault at h3
    by_cases hf0 : f.face = 0
    · rw [if_neg (by rw [hf0]; decide)] at h3
      by_cases hc : (St.chks f.body 1).2 = 0
      · unfold Fn.face at hf0
        split at hf0
        · omega
        rename_i hn
        split at hf0
        · omega
        rename_i h8
        refine ⟨size_of_nameB (by simpa using hn), by omega, fun y hy => ?_, St.fines_of_chks _ _ hc, ?_⟩
        · have h4 := Pm.errs_all hf0 y hy
          unfold Pm.err at h4
          split at h4
          · omega
          rename_i h5
          exact size_of_nameB (by simpa using h5)
        · have h4 := Fn.count_take hf
          have h5 := Fn.count_le (l := p.funcs) (i + 1)
          omega
      · rw [if_pos hc] at h3; exact absurd h3 hc
    · rw [if_pos hf0] at h3; exact absurd h3 hf0
  · rw [if_pos h0] at h; exact absurd h h0
/-- The names of the functions ahead. -/
def gAt (l : List Fn) (i : Nat) : List ByteArray := (l.take i).map (·.name)
theorem gAt_next {l : List Fn} {i : Nat} {x : Fn} (h : l[i]? = some x) : gAt l (i + 1) = gAt l i ++ [x.name] := by unfold gAt; rw [take_next h]; simp
theorem gAt_len (l : List Fn) (i : Nat) : (gAt l i).length ≤ l.length := by unfold gAt; simp; omega
theorem gAt_at {l : List Fn} {i j : Nat} {x : Fn} (h : l[j]? = some x) (hj : j < i) : (gAt l i)[j]? = some x.name := by unfold gAt; simp [hj, h]
theorem Fn.nfaults_hit {l : List Fn} {G : List ByteArray} {i k : Nat} {x : Fn} (h : l[i]? = some x) (hn : ∀ j y, j < i → l[j]? = some y → (y.nfault (G ++ gAt l j) (k + j)).1 = 0) (he : (x.nfault (G ++ gAt l i) (k + i)).1 ≠ 0) : Fn.nfaults l G k = x.nfault (G ++ gAt l i) (k + i) := by
  induction l generalizing i k G with
  | nil => simp at h
  | cons y l ih =>
    cases i with
    | zero => simp at h; subst h; simp only [Fn.nfaults, gAt, List.take_zero, List.map_nil, List.append_nil, Nat.add_zero] at he ⊢; exact if_pos he
    | succ i =>
      have h0 := hn 0 y (by omega) rfl
      simp only [gAt, List.take_zero, List.map_nil, List.append_nil, Nat.add_zero] at h0
      simp only [Fn.nfaults]
      rw [if_neg (by rw [h0]; decide)]
      have e : ∀ j, G ++ gAt (y :: l) (j + 1) = G ++ [y.name] ++ gAt l j := fun j => by unfold gAt; simp
      have := ih (i := i) (k := k + 1) (G := G ++ [y.name]) (by simpa using h) (fun j z hj hz => by rw [← e, Nat.add_assoc, Nat.add_comm 1 j]; exact hn (j + 1) z (by omega) (by simpa using hz)) (by rw [← e, Nat.add_assoc, Nat.add_comm 1 i]; exact he)
      rw [this, ← e, Nat.add_assoc, Nat.add_comm 1 i]
theorem Fn.nfaults_none {l : List Fn} {G : List ByteArray} {k : Nat} (hn : ∀ (j : Nat) y, l[j]? = some y → (y.nfault (G ++ gAt l j) (k + j)).1 = 0) : Fn.nfaults l G k = (0, 0, 0) := by
  induction l generalizing k G with
  | nil => rfl
  | cons y l ih =>
    have h0 := hn 0 y rfl
    simp only [gAt, List.take_zero, List.map_nil, List.append_nil, Nat.add_zero] at h0
    simp only [Fn.nfaults]
    rw [if_neg (by rw [h0]; decide)]
    have e : ∀ j, G ++ gAt (y :: l) (j + 1) = G ++ [y.name] ++ gAt l j := fun j => by unfold gAt; simp
    exact ih fun j z hz => by rw [← e, Nat.add_assoc, Nat.add_comm 1 j]; exact hn (j + 1) z (by simpa using hz)
theorem twiceB_snoc (l : List Pm) (G : List ByteArray) (x : Pm) : twiceB (l ++ [x]) G = (twiceB l G || decide (x.name ∈ G ++ l.map (·.name))) := by
  induction l generalizing G with
  | nil => simp [twiceB]
  | cons y l ih => simp only [List.cons_append, twiceB, ih, List.map_cons, List.append_assoc, Bool.or_assoc, List.nil_append]
theorem twiceB_stop {l : List Pm} {G : List ByteArray} (i : Nat) (h : twiceB (l.take i) G = true) : twiceB l G = true := by
  induction l generalizing i G with
  | nil => simp [twiceB] at h
  | cons y l ih =>
    cases i with
    | zero => simp [twiceB] at h
    | succ i =>
      simp only [List.take_succ_cons, twiceB, Bool.or_eq_true] at h ⊢
      rcases h with h | h
      · exact .inl h
      · exact .inr (ih i h)
theorem parK_take {l : List Pm} {i : Nat} {x : Pm} (h : l[i]? = some x) : parK (l.take (i + 1)) = parK (l.take i) ++ [(x.name, 1)] := by rw [take_next h]; simp [parK]
theorem parK_kind {l : List Pm} {s : ByteArray} : kindOf (parK l) s ≠ 0 ↔ s ∈ l.map (·.name) := by
  rw [Ne, kindOf_zero (fun q hq => by simp [parK] at hq; obtain ⟨a, _, rfl⟩ := hq; exact (by decide : (1 : Int) ≠ 0))]
  simp [parK]
/-- One more parameter: does its name stand ahead of it? -/
theorem twiceB_next {l : List Pm} {i : Nat} {x : Pm} (h : l[i]? = some x) (h0 : twiceB (l.take i) [] = false) : twiceB (l.take (i + 1)) [] = decide (kindOf (parK (l.take i)) x.name ≠ 0) := by
  rw [take_next h, twiceB_snoc, h0, List.nil_append, Bool.false_or]
  exact decide_eq_decide.2 parK_kind.symm
theorem Oth.new {S T : Nat → Prop} {W w w' : World} (h : Oth S W w) (k : Oth T w w') (hT : ∀ b, b < W.heap.size → T b → S b) : Oth S W w' :=
  ⟨k.os.trans h.os, k.tape.trans h.tape, k.output.trans h.output, Nat.le_trans h.size k.size, fun i hi hc => (k.block i (Nat.lt_of_lt_of_le hi h.size) (fun ht => hc (hT i hi ht))).trans (h.block i hi hc)⟩
end Go.Proofs.Ytneibcpgengdnaa
