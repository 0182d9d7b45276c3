/- LoopsCount: the plain law. -/
import Derived.Test.YtapjdndcnenadaaDoorNestRows
import Derived.Test.YtapjdndcnenadaaDoorRLists
namespace Go.Proofs.YtapjdndcnenadaaDoor
open Go.RowKit

theorem counts_ok {code : List Ins} {h : Int} {mem backs : List Int} (h0 : (countsOf code h mem backs).1 = 0) : (insAt code h).op = 17 ∧ (∀ u ∈ backs, badBack code (insAt code h) u = false) ∧ (∀ u ∈ mem, drives code (insAt code h) backs u = false) ∧ ∀ u ∈ mem, u ≠ (insAt code h).n := by
  unfold countsOf at h0
  by_cases h1 : (insAt code h).op = 17
  · rw [if_neg (by simp [h1])] at h0
    cases hb : backs.find? (badBack code (insAt code h)) with
    | some u => rw [hb] at h0; cases h0
    | none =>
      rw [hb] at h0
      simp only at h0
      cases hd : mem.find? (drives code (insAt code h) backs) with
      | some u => rw [hd] at h0; cases h0
      | none =>
        rw [hd] at h0
        simp only at h0
        by_cases hn : mem.any (fun u => u == (insAt code h).n) = true
        · rw [if_pos hn] at h0; cases h0
        · refine ⟨h1, fun u hu => ?_, fun u hu => ?_, fun u hu e => hn ?_⟩
          · have := List.find?_eq_none.1 hb u hu; simpa using this
          · have := List.find?_eq_none.1 hd u hu; simpa using this
          · rw [List.any_eq_true]; exact ⟨u, hu, by simp [e]⟩
  · rw [if_pos h1] at h0; cases h0
theorem insAt_get {code : List Ins} {u : Nat} (hu : u < code.length) : code[u]? = some (insAt code (u : Int)) := by
  unfold insAt
  rw [List.getElem?_eq_getElem hu]
  simp [List.getD, hu]
/-- A step leads to its number. -/
theorem step_back {code : List Ins} {u h : Int} (he : (u, h) ∈ edgesL code) (hop : (insAt code u).op = 18) : (insAt code u).n = h := by
  obtain ⟨h1, h2, _, _, h5, _⟩ := edgesL_mem he
  simp only at h1 h2 h5
  obtain ⟨k, rfl⟩ : ∃ k : Nat, u = k := ⟨u.toNat, by omega⟩
  unfold nextL at h5
  rw [if_neg (by omega), Int.toNat_natCast, insAt_get (by omega)] at h5
  simp only at h5
  generalize insAt code (k : Int) = x at *
  obtain ⟨op, a, b, c, n⟩ := x
  simp only at hop
  subst hop
  unfold nextOf at h5
  simp [aheadB, targetB, knownB] at h5
  show n = h
  omega

/-! ### where back edges go from -/
noncomputable def goneF (code : List Ins) (k : Nat) (x : Int) : List Int := open Classical in if x ∈ (headsL code).take k then toI (backsE code) x else []
theorem goneF_zero (code : List Ins) : goneF code 0 = fun _ => [] := by funext x; simp [goneF]
theorem goneF_succ {code : List Ins} {k : Nat} {h : Int} (hh : (headsL code)[k]? = some h) (x : Int) : goneF code (k + 1) x = if x = h then toI (backsE code) h else goneF code k x := by
  unfold goneF
  rw [List.take_add_one, hh]
  by_cases e : x = h
  · subst e; simp
  · simp [e]
theorem goneF_new {code : List Ins} {k : Nat} {h : Int} (hh : (headsL code)[k]? = some h) : goneF code k h = [] := by
  unfold goneF
  rw [if_neg]
  intro hm
  obtain ⟨j, hj⟩ := List.mem_iff_getElem?.1 hm
  rw [List.getElem?_take] at hj
  split at hj
  · exact heads_ne hj hh (by omega) rfl
  · cases hj
theorem goneF_all {code : List Ins} {k : Nat} (hk : (headsL code).length ≤ k) (x : Int) : goneF code k x = toI (backsE code) x := by
  unfold goneF
  rw [List.take_of_length_le hk]
  by_cases e : x ∈ headsL code
  · rw [if_pos e]
  · rw [if_neg e]
    exact (Classical.byContradiction fun hn => e (headsL_mem.2 (fun e2 => hn e2.symm)))
theorem gone_back {code : List Ins} {u v : Int} (he : (u, v) ∈ edgesL code) : (toI (backsE code) v).contains u = isBack code (u, v) := by
  rw [Bool.eq_iff_iff, List.contains_iff_mem, toI_mem]
  unfold backsE backsIn
  rw [List.mem_filter]
  exact ⟨fun h => h.2, fun h => ⟨he, h⟩⟩
theorem aheadIn_snoc (code : List Ins) (es : List Edge) (e : Edge) : aheadIn code (es ++ [e]) = if isBack code e = true then aheadIn code es else aheadIn code es ++ [e] := by
  unfold aheadIn
  rw [List.filter_append]
  cases h : isBack code e <;> simp [h]
theorem cntTo_one (es : List Edge) (e : Edge) (v : Int) : cntTo (es ++ [e]) [] v = cntTo es [] v + if v = e.2 then 1 else 0 := by
  unfold cntTo
  rw [List.countP_append]
  by_cases h : v = e.2
  · subst h; simp
  · have h' : ¬ e.2 = v := fun h2 => h h2.symm
    simp [h, h']

/-! ### what is taken first -/
def todoTo (es : List Edge) (rl : List Bool) (k : Nat) : List Int := (reachTo rl k).filter fun x => decide (cntTo es [] x = 0)
theorem todoTo_succ (es : List Edge) (rl : List Bool) (k : Nat) : todoTo es rl (k + 1) = todoTo es rl k ++ if rl.getD k false = true ∧ cntTo es [] (k : Int) = 0 then [(k : Int)] else [] := by
  unfold todoTo
  rw [reachTo_succ, List.filter_append]
  cases h : rl.getD k false
  · simp
  · by_cases h2 : cntTo es [] (k : Int) = 0 <;> simp [h2]
theorem todoTo_len (es : List Edge) (rl : List Bool) (k : Nat) : (todoTo es rl k).length ≤ k := Nat.le_trans (List.length_filter_le _ _) (reachTo_len rl k)
theorem todo_start (es : List Edge) (rl : List Bool) (k : Nat) : KI es (fun x => x ∈ reachTo rl k) [] (todoTo es rl k) (fun v => (cntTo es [] v : Int)) := by
  refine KI.start ((reachTo_nodup rl k).filter _) fun x => ?_
  unfold todoTo
  rw [List.mem_filter]
  simp
/-- The first one is taken from the front. -/
theorem KI.front {es : List Edge} {R : Int → Prop} {P T : List Int} {u : Int} (h : KI es R P (u :: T) (fun v => (cntTo es P v : Int))) : KI es R (P ++ [u]) T (takeF es P u 0) ∧ ¬ u ∈ P := by
  have key : P ++ [u] ++ T = P ++ (u :: T) := by simp
  refine ⟨⟨by rw [key]; exact h.nodup, by rw [key]; exact h.sub, fun x hx => ?_, by rw [key]; exact h.off⟩, fun hu => ?_⟩
  · rw [key, takeF_zero]; exact h.zero x hx
  · have := List.nodup_append.1 h.nodup
    exact this.2.2 u hu u (by simp) rfl
theorem countPI_lt {p q : Int → Bool} : ∀ {l : List Int}, (∀ x ∈ l, p x = true → q x = true) → (∃ z ∈ l, q z = true ∧ p z = false) → l.countP p < l.countP q
  | [], _, ⟨_, h, _⟩ => by simp at h
  | x :: l, h, ⟨z, hz, h1, h2⟩ => by
    have hle : l.countP p ≤ l.countP q := List.countP_mono_left (fun y hy => h y (by simp [hy]))
    rw [List.countP_cons, List.countP_cons]
    rcases List.mem_cons.1 hz with rfl | hz
    · rw [h1, h2]; simp; omega
    · have ih := countPI_lt (p := p) (q := q) (l := l) (fun y hy => h y (by simp [hy])) ⟨z, hz, h1, h2⟩
      have hx := h x (by simp)
      cases hp : p x
      · simp; omega
      · rw [hx hp]; simp; omega
open Classical in
/-- Where each has one of the list that leads to it, there is a ring. -/
theorem ring_of {es : List Edge} {U : List Int} (h : ∀ x ∈ U, ∃ z ∈ U, (z, x) ∈ es) (hn : ∀ v, ¬ Way es v v) : ∀ (n : Nat) (x : Int), x ∈ U → U.countP (fun y => decide (Way es y x)) = n → False
  | n, x, hx, hc => by
    obtain ⟨z, hz, he⟩ := h x hx
    have hlt : U.countP (fun y => decide (Way es y z)) < U.countP (fun y => decide (Way es y x)) := by
      refine countPI_lt (fun y _ hy => ?_) ⟨z, hz, ?_, ?_⟩
      · exact decide_eq_true (Way.trans (of_decide_eq_true hy) (.one he))
      · exact decide_eq_true (.one he)
      · exact decide_eq_false (hn z)
    rw [hc] at hlt
    exact ring_of h hn _ z hz rfl
  termination_by n => n
open Classical in
/-- Where nothing comes round all is taken. -/
theorem KI.taken {es : List Edge} {Rl P : List Int} (h : KI es (fun x => x ∈ Rl) P [] (fun v => (cntTo es P v : Int))) (hn : ∀ v, ¬ Way es v v) (he : ∀ e ∈ es, e.1 ∈ Rl) : ∀ x ∈ Rl, x ∈ P := by
  intro x hx
  refine Classical.byContradiction fun hxP => ?_
  refine ring_of (es := es) (U := Rl.filter fun y => decide (¬ y ∈ P)) (fun y hy => ?_) hn _ x (List.mem_filter.2 ⟨hx, decide_eq_true hxP⟩) rfl
  obtain ⟨hyR, hyP⟩ := List.mem_filter.1 hy
  have hyP := of_decide_eq_true hyP
  have hz := h.zero y hyR
  rw [List.append_nil] at hz
  have hc : 0 < cntTo es P y := by
    refine Nat.pos_of_ne_zero fun e => hyP (hz.2 ?_)
    simp only [e]; rfl
  unfold cntTo at hc
  obtain ⟨e, hem, hp⟩ := List.countP_pos_iff.1 hc
  simp only [Bool.and_eq_true, decide_eq_true_eq, Bool.not_eq_true', List.contains_eq_mem, decide_eq_false_iff_not] at hp
  exact ⟨e.1, List.mem_filter.2 ⟨he e hem, decide_eq_true hp.2⟩, by rw [← hp.1]; exact hem⟩
theorem KI.len {es : List Edge} {Rl P T : List Int} {F : Int → Int} (h : KI es (fun x => x ∈ Rl) P T F) : (P ++ T).length ≤ Rl.length := nodup_subL _ _ h.nodup h.sub
theorem KI.all {es : List Edge} {Rl P : List Int} (hR : Rl.Nodup) (h : KI es (fun x => x ∈ Rl) P [] (fun v => (cntTo es P v : Int))) (hn : ∀ v, ¬ Way es v v) (he : ∀ e ∈ es, e.1 ∈ Rl) : P.length = Rl.length := by
  have h1 := h.len
  have h2 := nodup_subL Rl P hR (h.taken hn he)
  rw [List.append_nil] at h1
  omega
theorem ahead_reach {code : List Ins} {e : Edge} (h : e ∈ aheadE code) : e.1 ∈ reachTo (reachL code (-1)) code.length ∧ e.2 ∈ reachTo (reachL code (-1)) code.length := by
  obtain ⟨m1, m2, m3, m4, _, mB, m7, m8⟩ := edgesL_mem (ahead_sub h)
  exact ⟨reachTo_mem.2 ⟨m1, m2, (reachL_get mB (by omega)).2 m7⟩, reachTo_mem.2 ⟨m3, m4, (reachL_get mB (by omega)).2 m8⟩⟩

/-! ### a row of numbers, by place -/
def rowF (n : Nat) (F : Int → Int) : List Int := (List.range n).map fun v : Nat => F (v : Int)
theorem rowF_len (n : Nat) (F : Int → Int) : (rowF n F).length = n := by simp [rowF]
theorem rowF_get {n v : Nat} (F : Int → Int) (hv : v < n) : (rowF n F).getD v 0 = F v := by simp [rowF, List.getD, hv]
theorem rowF_set {n v : Nat} (F : Int → Int) (x : Int) : (rowF n F).set v x = rowF n (fun u => if u = (v : Int) then x else F u) := by
  refine List.ext_getElem? fun k => ?_
  rw [List.getElem?_set]
  unfold rowF
  by_cases hk : k < n
  · by_cases h : v = k
    · subst h; simp [hk]
    · have h' : ¬ (k : Int) = (v : Int) := by omega
      simp [h, h', hk]
  · by_cases h : v = k
    · subst h; simp [hk]
    · simp [h, hk]
theorem rowF_zero (n : Nat) : List.replicate n (0 : Int) = rowF n (fun v => (cntTo [] [] v : Int)) := by
  refine List.ext_getElem? fun k => ?_
  unfold rowF cntTo
  by_cases hk : k < n <;> simp [hk]
theorem rowF_congr {n : Nat} {F G : Int → Int} (h : ∀ v, F v = G v) : rowF n F = rowF n G := by rw [show F = G from funext h]
theorem reachTo_past {rl : List Bool} {k : Nat} (hk : rl.length ≤ k) (j : Nat) : reachTo rl (k + j) = reachTo rl k := by
  induction j with
  | zero => rfl
  | succ j ih => rw [← Nat.add_assoc, reachTo_succ, ih, if_neg]; · simp
                 rw [List.getD_eq_getElem?_getD, List.getElem?_eq_none (by omega)]; simp
end Go.Proofs.YtapjdndcnenadaaDoor
