/- Ways, closures by a list of those to be looked at, and taking away those to which nothing leads: the plain side. -/
import Derived.Test.YtapjdndcnenadaaDoorMaps
namespace Go.Proofs.YtapjdndcnenadaaDoor
open Go.RowKit

/-- A way of one edge or more. -/
inductive Way (es : List Edge) : Int → Int → Prop
  | one {u v : Int} : (u, v) ∈ es → Way es u v
  | more {u v x : Int} : Way es u v → (v, x) ∈ es → Way es u x
theorem Way.trans {es : List Edge} {a b c : Int} (h : Way es a b) (k : Way es b c) : Way es a c := by
  induction k with
  | one h1 => exact .more h h1
  | more _ h1 ih => exact .more ih h1
/-- Who is on a ring is led to by another one on a ring. -/
theorem Way.back {es : List Edge} {v : Int} (h : Way es v v) : ∃ x, (x, v) ∈ es ∧ Way es x x := by
  cases h with
  | one h => exact ⟨v, h, .one h⟩
  | more h1 h2 => exact ⟨_, h2, Way.trans (.one h2) h1⟩

/-! ### closures -/
inductive Cl (S0 l0 : List Int) (ex : Int → List Int) : Int → Prop
  | base {x : Int} : x ∈ l0 → Cl S0 l0 ex x
  | step {x y : Int} : Cl S0 l0 ex y → ¬ y ∈ S0 → x ∈ ex y → Cl S0 l0 ex x
structure WInv (S0 l0 : List Int) (ex : Int → List Int) (S l : List Int) : Prop where
  s0 : ∀ x ∈ S0, x ∈ S
  set : ∀ x ∈ S, x ∈ S0 ∨ Cl S0 l0 ex x
  todo : ∀ x ∈ l, Cl S0 l0 ex x
  ahead : ∀ x ∈ S, ¬ x ∈ S0 → ∀ y ∈ ex x, y ∈ S ∨ y ∈ l
  base : ∀ x ∈ l0, x ∈ S ∨ x ∈ l
theorem WInv.start (S0 l0 : List Int) (ex : Int → List Int) : WInv S0 l0 ex S0 l0 :=
  ⟨fun _ h => h, fun _ h => .inl h, fun _ h => .base h, fun _ h hn => absurd h hn, fun _ h => .inr h⟩
theorem WInv.skip {S0 l0 : List Int} {ex : Int → List Int} {S l : List Int} {x : Int} (h : WInv S0 l0 ex S (l ++ [x])) (hx : x ∈ S) : WInv S0 l0 ex S l := by
  have key : ∀ y, y ∈ S ∨ y ∈ l ++ [x] → y ∈ S ∨ y ∈ l := fun y hy => by
    rcases hy with hy | hy
    · exact .inl hy
    · rcases List.mem_append.1 hy with hy | hy
      · exact .inr hy
      · rw [List.mem_singleton.1 hy]; exact .inl hx
  exact ⟨h.s0, h.set, fun y hy => h.todo y (by simp [hy]), fun y hy hn z hz => key z (h.ahead y hy hn z hz), fun y hy => key y (h.base y hy)⟩
theorem WInv.add {S0 l0 : List Int} {ex : Int → List Int} {S l : List Int} {x : Int} (h : WInv S0 l0 ex S (l ++ [x])) (hx : ¬ x ∈ S) : WInv S0 l0 ex (insL S x) (l ++ ex x) := by
  have hc := h.todo x (by simp)
  have h0 : ¬ x ∈ S0 := fun e => hx (h.s0 x e)
  have key : ∀ y, y ∈ S ∨ y ∈ l ++ [x] → y ∈ insL S x ∨ y ∈ l ++ ex x := fun y hy => by
    rcases hy with hy | hy
    · exact .inl ((insL_mem _ _ _).2 (.inr hy))
    · rcases List.mem_append.1 hy with hy | hy
      · exact .inr (by simp [hy])
      · exact .inl ((insL_mem _ _ _).2 (.inl (List.mem_singleton.1 hy)))
  refine ⟨fun y hy => (insL_mem _ _ _).2 (.inr (h.s0 y hy)), fun y hy => ?_, fun y hy => ?_, fun y hy hn z hz => ?_, fun y hy => key y (h.base y hy)⟩
  · rcases (insL_mem _ _ _).1 hy with rfl | hy
    · exact .inr hc
    · exact h.set y hy
  · rcases List.mem_append.1 hy with hy | hy
    · exact h.todo y (by simp [hy])
    · exact .step hc h0 hy
  · rcases (insL_mem _ _ _).1 hy with rfl | hy
    · exact .inr (by simp [hz])
    · exact key z (h.ahead y hy hn z hz)
theorem WInv.done {S0 l0 : List Int} {ex : Int → List Int} {S : List Int} (h : WInv S0 l0 ex S []) (x : Int) : x ∈ S ↔ x ∈ S0 ∨ Cl S0 l0 ex x := by
  constructor
  · exact h.set x
  · rintro (hx | hx)
    · exact h.s0 x hx
    · induction hx with
      | base hb =>
        rcases h.base _ hb with hb | hb
        · exact hb
        · cases hb
      | step _ hn hy ih =>
        rcases h.ahead _ ih hn _ hy with hb | hb
        · exact hb
        · cases hb
theorem cl_way {es : List Edge} {v x : Int} : Cl [] (outI es v) (outI es) x ↔ Way es v x := by
  constructor
  · intro h
    induction h with
    | base h => exact .one (outI_mem.1 h)
    | step _ _ h ih => exact .more ih (outI_mem.1 h)
  · intro h
    induction h with
    | one h => exact .base (outI_mem.2 h)
    | more _ h ih => exact .step ih (by simp) (outI_mem.2 h)

/-! ### how many lead there -/
/-- How many edges lead to v from those that are not in P. -/
def cntTo (es : List Edge) (P : List Int) (v : Int) : Nat := es.countP fun e => decide (e.2 = v) && !P.contains e.1
/-- How many edges lead to v from those in ks. -/
def cnt1 (es : List Edge) (ks : List Int) (v : Int) : Nat := es.countP fun e => decide (e.2 = v) && ks.contains e.1
theorem outI_count (es : List Edge) (u v : Int) : (outI es u).count v = es.countP fun e => decide (e.2 = v) && decide (e.1 = u) := by
  unfold outI
  rw [List.count, List.countP_map, List.countP_filter]
  congr 1
theorem cnt1_snoc {es : List Edge} {ks : List Int} {x : Int} (hx : ¬ x ∈ ks) (v : Int) : cnt1 es (ks ++ [x]) v = cnt1 es ks v + (outI es x).count v := by
  rw [outI_count]
  unfold cnt1
  induction es with
  | nil => rfl
  | cons e es ih =>
    simp only [List.countP_cons, ih]
    by_cases h1 : e.2 = v
    · by_cases h2 : e.1 = x
      · have h3 : ks.contains e.1 = false := by rw [h2]; simpa using hx
        simp [h1, h2, hx]; omega
      · by_cases h3 : e.1 ∈ ks
        · simp [h1, h2, h3]; omega
        · simp [h1, h2, h3]
    · simp [h1]
theorem cnt1_all {es : List Edge} {ks : List Int} (h : ∀ e ∈ es, e.1 ∈ ks) (v : Int) : cnt1 es ks v = cntTo es [] v := by
  unfold cnt1 cntTo
  refine List.countP_congr fun e he => ?_
  simp [h e he]
theorem cntTo_snoc {es : List Edge} {P : List Int} {x : Int} (hx : ¬ x ∈ P) (v : Int) : cntTo es P v = cntTo es (P ++ [x]) v + (outI es x).count v := by
  rw [outI_count]
  unfold cntTo
  induction es with
  | nil => rfl
  | cons e es ih =>
    simp only [List.countP_cons, ih]
    by_cases h1 : e.2 = v
    · by_cases h2 : e.1 = x
      · simp [h1, h2, hx]; omega
      · by_cases h3 : e.1 ∈ P
        · simp [h1, h2, h3]
        · simp [h1, h2, h3]; omega
    · simp [h1]
theorem cntTo_le (es : List Edge) (P : List Int) (v : Int) : cntTo es P v ≤ es.length := List.countP_le_length
theorem cnt1_le (es : List Edge) (P : List Int) (v : Int) : cnt1 es P v ≤ es.length := List.countP_le_length
theorem cntTo_pos {es : List Edge} {P : List Int} {v x : Int} (h : (x, v) ∈ es) (hx : ¬ x ∈ P) : 0 < cntTo es P v := by
  unfold cntTo
  rw [List.countP_pos_iff]
  exact ⟨_, h, by simp [hx]⟩
theorem count_take_le (l : List Int) (v : Int) (i : Nat) : (l.take i).count v ≤ l.count v := (List.take_sublist i l).count_le v
theorem count_take_succ {l : List Int} {i : Nat} {x : Int} (h : l[i]? = some x) (v : Int) : (l.take (i + 1)).count v = (l.take i).count v + if v = x then 1 else 0 := by
  rw [List.take_add_one, h, List.count_append]
  by_cases e : v = x
  · subst e; simp
  · have e2 : ¬ x = v := fun e2 => e e2.symm
    simp [e, e2]

/-! ### taking away -/
/-- P is taken away, T is to be; F tells how many still lead to one, of u's edges only those behind the first i. -/
structure KI (es : List Edge) (R : Int → Prop) (P T : List Int) (F : Int → Int) : Prop where
  nodup : (P ++ T).Nodup
  sub : ∀ x ∈ P ++ T, R x
  zero : ∀ x, R x → (x ∈ P ++ T ↔ F x = 0)
  off : ∀ x ∈ P ++ T, ¬ Way es x x
/-- .. while u's edges are taken. -/
def takeF (es : List Edge) (P : List Int) (u : Int) (i : Nat) (v : Int) : Int := (cntTo es P v : Int) - (((outI es u).take i).count v : Nat)
theorem takeF_zero (es : List Edge) (P : List Int) (u : Int) : takeF es P u 0 = fun v => (cntTo es P v : Int) := by funext v; unfold takeF; simp
theorem takeF_all {es : List Edge} {P : List Int} {u : Int} (hu : ¬ u ∈ P) {i : Nat} (hi : (outI es u).length ≤ i) : takeF es P u i = fun v => (cntTo es (P ++ [u]) v : Int) := by
  funext v; unfold takeF
  rw [List.take_of_length_le hi]
  have := cntTo_snoc (es := es) hu v
  omega
theorem takeF_range (es : List Edge) (P : List Int) (u : Int) (hu : ¬ u ∈ P) (i : Nat) (v : Int) : 0 ≤ takeF es P u i v ∧ takeF es P u i v ≤ es.length := by
  have h1 := cntTo_snoc (es := es) hu v
  have h2 := count_take_le (outI es u) v i
  have h3 := cntTo_le es P v
  unfold takeF
  omega
theorem takeF_succ {es : List Edge} {P : List Int} {u x : Int} {i : Nat} (h : (outI es u)[i]? = some x) : takeF es P u (i + 1) = fun v => if v = x then takeF es P u i x - 1 else takeF es P u i v := by
  funext v; unfold takeF
  rw [count_take_succ h]
  by_cases e : v = x
  · subst e; simp; omega
  · simp [e]
theorem takeF_pos {es : List Edge} {P : List Int} {u x : Int} {i : Nat} (hu : ¬ u ∈ P) (h : (outI es u)[i]? = some x) : 1 ≤ takeF es P u i x := by
  have h1 := cntTo_snoc (es := es) hu x
  have h2 := count_take_le (outI es u) x (i + 1)
  rw [count_take_succ h, if_pos rfl] at h2
  unfold takeF
  omega
theorem nodup_move {P T : List Int} {u : Int} (h : (P ++ (T ++ [u])).Nodup) : ((P ++ [u]) ++ T).Nodup := by
  rw [List.append_assoc]
  refine (List.Perm.append_left P ?_).nodup h
  exact List.perm_append_comm
theorem KI.pop {es : List Edge} {R : Int → Prop} {P T : List Int} {u : Int} (h : KI es R P (T ++ [u]) (fun v => (cntTo es P v : Int))) : KI es R (P ++ [u]) T (takeF es P u 0) ∧ ¬ u ∈ P := by
  have key : ∀ x, x ∈ (P ++ [u]) ++ T ↔ x ∈ P ++ (T ++ [u]) := fun x => by
    simp only [List.mem_append, List.mem_singleton]
    constructor
    · rintro ((h | h) | h)
      · exact .inl h
      · exact .inr (.inr h)
      · exact .inr (.inl h)
    · rintro (h | h | h)
      · exact .inl (.inl h)
      · exact .inr h
      · exact .inl (.inr h)
  refine ⟨⟨nodup_move h.nodup, fun x hx => h.sub x ((key x).1 hx), fun x hx => ?_, fun x hx => h.off x ((key x).1 hx)⟩, fun hu => ?_⟩
  · rw [key, takeF_zero]; exact h.zero x hx
  · have := List.nodup_append.1 h.nodup
    exact this.2.2 u hu u (by simp) rfl
theorem KI.stay {es : List Edge} {R : Int → Prop} {P T : List Int} {u x : Int} {i : Nat} (h : KI es R (P ++ [u]) T (takeF es P u i)) (hu : ¬ u ∈ P) (hx : (outI es u)[i]? = some x) (hR : R x) (hn : takeF es P u i x - 1 ≠ 0) : KI es R (P ++ [u]) T (takeF es P u (i + 1)) := by
  refine ⟨h.nodup, h.sub, fun y hy => ?_, h.off⟩
  rw [h.zero y hy, takeF_succ hx]
  by_cases e : y = x
  · subst e
    have := takeF_pos hu hx
    simp only [if_true]
    constructor
    · intro h; omega
    · intro h; exact absurd h hn
  · simp only [if_neg e]
theorem KI.push {es : List Edge} {R : Int → Prop} {P T : List Int} {u x : Int} {i : Nat} (h : KI es R (P ++ [u]) T (takeF es P u i)) (hu : ¬ u ∈ P) (hx : (outI es u)[i]? = some x) (hR : R x) (hn : takeF es P u i x - 1 = 0) : KI es R (P ++ [u]) (T ++ [x]) (takeF es P u (i + 1)) := by
  have hp := takeF_pos hu hx
  have hxn : ¬ x ∈ P ++ [u] ++ T := fun hm => by have := (h.zero x hR).1 hm; omega
  have key : ∀ y, y ∈ P ++ [u] ++ (T ++ [x]) ↔ y ∈ P ++ [u] ++ T ∨ y = x := fun y => by
    rw [← List.append_assoc, List.mem_append, List.mem_singleton]
  refine ⟨?_, fun y hy => ?_, fun y hy => ?_, fun y hy => ?_⟩
  · rw [← List.append_assoc]
    exact List.nodup_append.2 ⟨h.nodup, by simp, fun a ha b hb e => by simp at hb; subst hb; subst e; exact hxn ha⟩
  · rcases (key y).1 hy with hy | rfl
    · exact h.sub y hy
    · exact hR
  · rw [key, h.zero y hy, takeF_succ hx]
    by_cases e : y = x
    · subst e
      simp only [if_true]
      constructor
      · intro _; exact hn
      · intro _; exact .inr trivial
    · simp only [if_neg e]
      constructor
      · rintro (h | h)
        · exact h
        · exact absurd h e
      · intro h; exact .inl h
  · rcases (key y).1 hy with hy | rfl
    · exact h.off y hy
    · intro hw
      obtain ⟨z, hz, hzz⟩ := hw.back
      have hzn : ¬ z ∈ P ++ [u] := fun hm => h.off z (by rw [List.mem_append]; exact .inl hm) hzz
      have h1 := cntTo_snoc (es := es) hu y
      have h2 := cntTo_pos hz hzn
      have h3 := count_take_le (outI es u) y (i + 1)
      rw [count_take_succ hx, if_pos rfl] at h3
      have h4 : takeF es P u i y = (cntTo es P y : Int) - (((outI es u).take i).count y : Nat) := rfl
      omega
/-- At the end: who is on a ring is still there, and led to. -/
theorem KI.rest {es : List Edge} {R : Int → Prop} {P : List Int} (h : KI es R P [] (fun v => (cntTo es P v : Int))) {v : Int} (hv : Way es v v) : ¬ v ∈ P ∧ (0 : Int) < (cntTo es P v : Int) := by

  have hn : ∀ x, Way es x x → ¬ x ∈ P := fun x hx hm => h.off x (by simpa using hm) hx
  obtain ⟨z, hz, hzz⟩ := hv.back
  have := cntTo_pos hz (hn z hzz)
  exact ⟨hn v hv, by omega⟩
theorem KI.start {es : List Edge} {R : Int → Prop} {T : List Int} (hn : T.Nodup) (hT : ∀ x, x ∈ T ↔ R x ∧ (cntTo es [] x : Int) = 0) : KI es R [] T (fun v => (cntTo es [] v : Int)) := by
  refine ⟨by simpa using hn, fun x hx => ((hT x).1 (by simpa using hx)).1, fun x hx => ?_, fun x hx hw => ?_⟩
  · rw [List.nil_append, hT]
    constructor
    · exact fun h => h.2
    · exact fun h => ⟨hx, h⟩
  · have h0 := ((hT x).1 (by simpa using hx)).2
    obtain ⟨z, hz, _⟩ := hw.back
    have := cntTo_pos hz (P := []) (by simp)
    omega

/-! ### those that can be reached -/
def reachTo (rl : List Bool) (k : Nat) : List Int := ((List.range k).filter fun i => rl.getD i false).map Int.ofNat
theorem reachTo_succ (rl : List Bool) (k : Nat) : reachTo rl (k + 1) = reachTo rl k ++ if rl.getD k false then [(k : Int)] else [] := by
  unfold reachTo
  rw [List.range_succ, List.filter_append, List.map_append]
  cases h : rl.getD k false
  · rw [List.filter_cons, h]; simp
  · rw [List.filter_cons, h]; simp
theorem reachTo_mem {rl : List Bool} {k : Nat} {x : Int} : x ∈ reachTo rl k ↔ 0 ≤ x ∧ x < k ∧ rl.getD x.toNat false = true := by
  unfold reachTo
  simp only [List.mem_map, List.mem_filter, List.mem_range]
  constructor
  · rintro ⟨i, ⟨h1, h2⟩, rfl⟩
    exact ⟨by simp, by simp; omega, by simpa using h2⟩
  · rintro ⟨h1, h2, h3⟩
    exact ⟨x.toNat, ⟨by omega, h3⟩, by simp; omega⟩
theorem reachTo_nodup (rl : List Bool) (k : Nat) : (reachTo rl k).Nodup := by
  unfold reachTo
  refine List.Pairwise.map Int.ofNat ?_ ((List.nodup_range).filter _)
  intro a b hab h
  exact hab (Int.ofNat.inj h)
theorem reachTo_len (rl : List Bool) (k : Nat) : (reachTo rl k).length ≤ k := by
  unfold reachTo
  rw [List.length_map]
  exact Nat.le_trans (List.length_filter_le _ _) (by simp)
theorem sub_lt {P R : List Int} {v : Int} (h1 : P.Nodup) (h2 : ∀ x ∈ P, x ∈ R) (hv : v ∈ R) (hn : ¬ v ∈ P) : P.length < R.length := by
  have := nodup_subL (v :: P) R (List.nodup_cons.2 ⟨hn, h1⟩) (fun x hx => by
    rcases List.mem_cons.1 hx with rfl | hx
    · exact hv
    · exact h2 x hx)
  rw [List.length_cons] at this
  omega
end Go.Proofs.YtapjdndcnenadaaDoor
