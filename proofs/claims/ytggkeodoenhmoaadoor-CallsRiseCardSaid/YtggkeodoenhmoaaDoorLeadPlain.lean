/- Who leads to whom, rings, and the order in which those that are called come first: plain law. -/
import Derived.Test.YtggkeodoenhmoaaDoorROf
namespace Go.Proofs.YtggkeodoenhmoaaDoor
open Go.RowKit

/-- One function leads to another one, by one call or more. -/
inductive Lead (F : List FR) (f : Int) : Int → Prop where
  | one {g : Int} : g ∈ ofFn F f → Lead F f g
  | more {g h : Int} : Lead F f g → h ∈ ofFn F g → Lead F f h
theorem ofFn_range {F : List FR} {f g : Int} (h : g ∈ ofFn F f) : 0 ≤ g ∧ g < F.length := by
  obtain ⟨p, hp, rfl⟩ := ofFn_mem.1 h
  exact callsFn_range hp
theorem Lead.range {F : List FR} {f g : Int} (h : Lead F f g) : 0 ≤ g ∧ g < F.length := by
  cases h with
  | one h => exact ofFn_range h
  | more _ h => exact ofFn_range h
theorem Lead.trans {F : List FR} {f g h : Int} (h1 : Lead F f g) (h2 : Lead F g h) : Lead F f h := by
  induction h2 with
  | one h => exact h1.more h
  | more _ h ih => exact ih.more h
theorem Lead.first {F : List FR} {f h : Int} (hl : Lead F f h) : ∃ g ∈ ofFn F f, g = h ∨ Lead F g h := by
  induction hl with
  | one h => exact ⟨_, h, .inl rfl⟩
  | more _ h ih =>
    obtain ⟨g, hg, hgh⟩ := ih
    refine ⟨g, hg, .inr ?_⟩
    rcases hgh with rfl | hgh
    · exact .one h
    · exact hgh.more h

/-- While those that one leads to are gathered: S the set, l what is still to do. -/
structure LInv (F : List FR) (f : Int) (S l : List Int) : Prop where
  setL : ∀ x ∈ S, Lead F f x
  todoL : ∀ x ∈ l, Lead F f x
  first : ∀ g ∈ ofFn F f, g ∈ S ∨ g ∈ l
  closed : ∀ x ∈ S, ∀ g ∈ ofFn F x, g ∈ S ∨ g ∈ l
theorem LInv.start (F : List FR) (f : Int) : LInv F f [] (ofFn F f) := ⟨by simp, fun x h => .one h, fun g h => .inr h, by simp⟩
theorem LInv.skip {F : List FR} {f x : Int} {S l : List Int} (h : LInv F f S (x :: l)) (hx : x ∈ S) : LInv F f S l := by
  have e : ∀ g, g ∈ S ∨ g ∈ x :: l → g ∈ S ∨ g ∈ l := fun g hg => by
    rcases hg with hg | hg
    · exact .inl hg
    · rcases List.mem_cons.1 hg with rfl | hg
      · exact .inl hx
      · exact .inr hg
  exact ⟨h.setL, fun y hy => h.todoL y (by simp [hy]), fun g hg => e g (h.first g hg), fun y hy g hg => e g (h.closed y hy g hg)⟩
theorem LInv.add {F : List FR} {f x : Int} {S l : List Int} (h : LInv F f S (x :: l)) : LInv F f (insL S x) (l ++ ofFn F x) := by
  have hx := h.todoL x (by simp)
  have e : ∀ g, g ∈ S ∨ g ∈ x :: l → g ∈ insL S x ∨ g ∈ l ++ ofFn F x := fun g hg => by
    rcases hg with hg | hg
    · exact .inl ((insL_mem _ _ _).2 (.inr hg))
    · rcases List.mem_cons.1 hg with rfl | hg
      · exact .inl ((insL_mem _ _ _).2 (.inl rfl))
      · exact .inr (by simp [hg])
  refine ⟨fun y hy => ?_, fun y hy => ?_, fun g hg => e g (h.first g hg), fun y hy g hg => ?_⟩
  · rcases (insL_mem _ _ _).1 hy with rfl | hy
    · exact hx
    · exact h.setL y hy
  · rcases List.mem_append.1 hy with hy | hy
    · exact h.todoL y (by simp [hy])
    · exact hx.more hy
  · rcases (insL_mem _ _ _).1 hy with rfl | hy
    · exact .inr (by simp [hg])
    · exact e g (h.closed y hy g hg)
theorem LInv.done {F : List FR} {f : Int} {S : List Int} (h : LInv F f S []) (x : Int) : x ∈ S ↔ Lead F f x := by
  refine ⟨h.setL x, fun hl => ?_⟩
  have e : ∀ g, g ∈ S ∨ g ∈ ([] : List Int) → g ∈ S := fun g hg => by rcases hg with hg | hg; exact hg; simp at hg
  induction hl with
  | one hg => exact e _ (h.first _ hg)
  | more _ hg ih => exact e _ (h.closed _ ih _ hg)
theorem set_small {n : Nat} {S : List Int} (h1 : S.Nodup) (h2 : ∀ x ∈ S, 0 ≤ x ∧ x < n) : S.length ≤ n := by
  have := nodup_sub S ((List.range n).map Int.ofNat) h1 (fun x hx => List.mem_map.2 ⟨x.toNat, List.mem_range.2 (by have := h2 x hx; omega), by have := h2 x hx; simp; omega⟩)
  simpa using this

/-! ### rings -/
/-- The first call of f, among the first k of C, that leads back to f. -/
def BackAt (F : List FR) (f : Int) (p : Pr) : Prop := Lead F p.2 f ∨ p.2 = f
/-- f is on a ring, and its call at 'at' is the first that comes back. -/
def RingAt (F : List FR) (f : Int) (k : Nat) : Prop := Lead F f f ∧ (∃ p, (callsFn F f)[k]? = some p ∧ BackAt F f p) ∧ ∀ j p, j < k → (callsFn F f)[j]? = some p → ¬ BackAt F f p
theorem no_ring {F : List FR} {f : Int} (h : ∀ p ∈ callsFn F f, ¬ BackAt F f p) : ¬ Lead F f f := fun hl => by
  obtain ⟨g, hg, hgf⟩ := hl.first
  obtain ⟨p, hp, rfl⟩ := ofFn_mem.1 hg
  exact h p hp (hgf.symm)

/-! ### the order -/
/-- x is the least that is not done and whose calls all are done. -/
structure NextIs (F : List FR) (d : List Int) (x : Int) : Prop where
  lo : 0 ≤ x
  hi : x < F.length
  new : ¬ x ∈ d
  free : ∀ g ∈ ofFn F x, g ∈ d
  least : ∀ y, 0 ≤ y → y < x → ¬ y ∈ d → ∃ g ∈ ofFn F y, ¬ g ∈ d
theorem NextIs.unique {F : List FR} {d : List Int} {x y : Int} (h : NextIs F d x) (k : NextIs F d y) : x = y := by
  have h1 : ¬ x < y := fun hl => by obtain ⟨g, hg, hn⟩ := k.least x h.lo hl h.new; exact hn (h.free g hg)
  have h2 : ¬ y < x := fun hl => by obtain ⟨g, hg, hn⟩ := h.least y k.lo hl k.new; exact hn (k.free g hg)
  omega
def Ord (F : List FR) (l : List Int) : Prop := ∀ k x, l[k]? = some x → NextIs F (l.take k) x
theorem Ord.nil (F : List FR) : Ord F [] := fun k x h => by simp at h
theorem Ord.snoc {F : List FR} {l : List Int} {x : Int} (h : Ord F l) (hx : NextIs F l x) : Ord F (l ++ [x]) := fun k y hk => by
  by_cases hl : k < l.length
  · rw [List.getElem?_append_left hl] at hk
    have := h k y hk
    rwa [List.take_append_of_le_length (by omega)]
  · rw [List.getElem?_append_right (by omega)] at hk
    have h0 : k - l.length = 0 := by
      by_cases h0 : k - l.length = 0
      · exact h0
      · rw [List.getElem?_eq_none (by simp; omega)] at hk; simp at hk
    rw [h0] at hk
    have e : x = y := by simpa using hk
    have ek : k = l.length := by omega
    subst e
    rw [ek, List.take_append_of_le_length (Nat.le_refl _), List.take_length]
    exact hx
theorem Ord.unique {F : List FR} : ∀ (n : Nat) {l m : List Int}, Ord F l → Ord F m → l.length = n → m.length = n → l = m := by
  intro n l m hl hm h1 h2
  have key : ∀ k, k ≤ n → l.take k = m.take k := by
    intro k
    induction k with
    | zero => simp
    | succ k ih =>
      intro hk
      have e := ih (by omega)
      have hx : l[k]? = some (l[k]'(by omega)) := List.getElem?_eq_getElem _
      have hy : m[k]? = some (m[k]'(by omega)) := List.getElem?_eq_getElem _
      have h3 := hl k _ hx
      have h4 := hm k _ hy
      rw [e] at h3
      rw [take_snoc hx, take_snoc hy, e, h3.unique h4]
  have := key n (Nat.le_refl _)
  rw [List.take_of_length_le (by omega), List.take_of_length_le (by omega)] at this
  exact this
theorem Ord.range {F : List FR} {l : List Int} (h : Ord F l) {x : Int} (hx : x ∈ l) : 0 ≤ x ∧ x < F.length := by
  obtain ⟨k, hk⟩ := List.getElem?_of_mem hx
  exact ⟨(h k x hk).lo, (h k x hk).hi⟩
theorem Ord.nodup {F : List FR} {l : List Int} (h : Ord F l) : l.Nodup := by
  unfold List.Nodup
  rw [List.pairwise_iff_getElem]
  intro i j hi hj hij e
  have hy : l[j]? = some (l[j]'hj) := List.getElem?_eq_getElem _
  have := (h j _ hy).new
  apply this
  rw [← e]
  exact List.mem_take_iff_getElem.2 ⟨i, by omega, rfl⟩
theorem filter_le {α : Type} (P Q : α → Prop) [DecidablePred P] [DecidablePred Q] (h : ∀ x, P x → Q x) : ∀ l : List α, (l.filter fun x => decide (P x)).length ≤ (l.filter fun x => decide (Q x)).length
  | [] => by simp
  | x :: l => by
    have ih := filter_le P Q h l
    simp only [List.filter_cons]
    by_cases hp : P x
    · rw [if_pos (by simpa using hp), if_pos (by simpa using h x hp)]; simpa using ih
    · rw [if_neg (by simpa using hp)]
      split
      · simp; omega
      · exact ih
theorem filter_lt {α : Type} (P Q : α → Prop) [DecidablePred P] [DecidablePred Q] (h : ∀ x, P x → Q x) (a : α) : ∀ {l : List α}, a ∈ l → Q a → ¬ P a → (l.filter fun x => decide (P x)).length < (l.filter fun x => decide (Q x)).length
  | [], hm, _, _ => by simp at hm
  | x :: l, hm, hq, hp => by
    simp only [List.filter_cons]
    rcases List.mem_cons.1 hm with rfl | hm
    · rw [if_neg (by simpa using hp), if_pos (by simpa using hq)]
      have := filter_le P Q h l
      simp; omega
    · have ih := filter_lt P Q h a hm hq hp
      by_cases hpx : P x
      · rw [if_pos (by simpa using hpx), if_pos (by simpa using h x hpx)]; simpa using ih
      · rw [if_neg (by simpa using hpx)]
        split
        · simp; omega
        · exact ih
/-- Where no one is on a ring and not all are done there is a next one. -/
theorem next_exists {F : List FR} (hr : ∀ f, ¬ Lead F f f) {d : List Int} (hd : ∃ x, 0 ≤ x ∧ x < (F.length : Int) ∧ ¬ x ∈ d) : ∃ x, NextIs F d x := by
  classical
  -- someone whose calls are all done
  have h1 : ∀ k (x : Int), ((List.range F.length).filter fun y : Nat => decide (¬ (y : Int) ∈ d ∧ Lead F x y)).length ≤ k → 0 ≤ x → x < F.length → ¬ x ∈ d → ∃ z, 0 ≤ z ∧ z < (F.length : Int) ∧ ¬ z ∈ d ∧ ∀ g ∈ ofFn F z, g ∈ d := by
    intro k
    induction k with
    | zero =>
      intro x hk h0 hn hx
      refine ⟨x, h0, hn, hx, fun g hg => Classical.byContradiction fun hgd => ?_⟩
      have hm : g.toNat ∈ (List.range F.length).filter fun y : Nat => decide (¬ (y : Int) ∈ d ∧ Lead F x y) := by
        have hr := ofFn_range hg
        have e : ((g.toNat : Nat) : Int) = g := by omega
        rw [List.mem_filter]
        refine ⟨List.mem_range.2 (by omega), decide_eq_true ?_⟩
        rw [e]; exact ⟨hgd, .one hg⟩
      have := List.length_pos_of_mem hm
      omega
    | succ k ih =>
      intro x hk h0 hn hx
      by_cases hall : ∀ g ∈ ofFn F x, g ∈ d
      · exact ⟨x, h0, hn, hx, hall⟩
      · have : ∃ g, g ∈ ofFn F x ∧ ¬ g ∈ d := Classical.byContradiction fun hc => hall fun g hg => Classical.byContradiction fun hgd => hc ⟨g, hg, hgd⟩
        obtain ⟨g, hg, hgd⟩ := this
        have hrg := ofFn_range hg
        refine ih g ?_ hrg.1 hrg.2 hgd
        have hlt : ((List.range F.length).filter fun y : Nat => decide (¬ (y : Int) ∈ d ∧ Lead F g y)).length < ((List.range F.length).filter fun y : Nat => decide (¬ (y : Int) ∈ d ∧ Lead F x y)).length := by
          have hsub : ∀ y : Nat, (¬ (y : Int) ∈ d ∧ Lead F g y) → (¬ (y : Int) ∈ d ∧ Lead F x y) := fun y h => ⟨h.1, (Lead.one hg).trans h.2⟩
          have hgx : ¬ ((g.toNat : Nat) : Int) ∈ d ∧ Lead F x (g.toNat : Nat) := by
            have e : ((g.toNat : Nat) : Int) = g := by omega
            rw [e]; exact ⟨hgd, .one hg⟩
          have hgg : ¬ (¬ ((g.toNat : Nat) : Int) ∈ d ∧ Lead F g (g.toNat : Nat)) := by
            have e : ((g.toNat : Nat) : Int) = g := by omega
            rw [e]; exact fun h => hr g h.2
          exact filter_lt (fun y : Nat => ¬ (y : Int) ∈ d ∧ Lead F g y) (fun y : Nat => ¬ (y : Int) ∈ d ∧ Lead F x y) hsub g.toNat (List.mem_range.2 (by omega)) hgx hgg
        omega
  obtain ⟨x, h0, hn, hx⟩ := hd
  obtain ⟨z, hz⟩ := h1 _ x (Nat.le_refl _) h0 hn hx
  -- the least of them
  have h2 : ∀ k (z : Int), z.toNat ≤ k → 0 ≤ z → z < (F.length : Int) → ¬ z ∈ d → (∀ g ∈ ofFn F z, g ∈ d) → ∃ x, NextIs F d x := by
    intro k
    induction k with
    | zero =>
      intro z hk h0 hn hd hf
      exact ⟨z, h0, hn, hd, hf, fun y hy0 hyz => by omega⟩
    | succ k ih =>
      intro z hk h0 hn hd hf
      by_cases hl : ∃ y, 0 ≤ y ∧ y < z ∧ ¬ y ∈ d ∧ ∀ g ∈ ofFn F y, g ∈ d
      · obtain ⟨y, hy0, hyz, hyd, hyf⟩ := hl
        exact ih y (by omega) hy0 (by omega) hyd hyf
      · refine ⟨z, h0, hn, hd, hf, fun y hy0 hyz hyd => Classical.byContradiction fun hc => hl ⟨y, hy0, hyz, hyd, fun g hg => Classical.byContradiction fun hgd => hc ⟨g, hg, hgd⟩⟩⟩
  exact h2 _ z (Nat.le_refl _) hz.1 hz.2.1 hz.2.2.1 hz.2.2.2
end Go.Proofs.YtggkeodoenhmoaaDoor
