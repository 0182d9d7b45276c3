/- The nearest dominators, round by round until nothing changes: the plain law. -/
import Derived.Test.YtapjdndcnenadaaDoorOrdPlain
namespace Go.Proofs.YtapjdndcnenadaaDoor
open Go.RowKit

/-- Reached in at most m steps, without g. -/
def RchN (code : List Ins) (g : Int) : Nat → Nat → Prop
  | 0, v => v = 0 ∧ g ≠ 0
  | m + 1, v => RchN code g m v ∨ ∃ u : Nat, RchN code g m u ∧ (v : Int) ∈ nextL code u ∧ (v : Int) ≠ g

theorem RchN.rch {code : List Ins} {g : Int} {m v : Nat} (h : RchN code g m v) : Rch code g v := by
  induction m generalizing v with
  | zero => obtain ⟨rfl, hg⟩ := h; exact .start hg
  | succ m ih =>
    rcases h with h | ⟨u, h1, h2, h3⟩
    · exact ih h
    · exact .step (ih h1) h2 h3
theorem RchN.mono {code : List Ins} {g : Int} {m k v : Nat} (h : RchN code g m v) (hk : m ≤ k) : RchN code g k v := by
  induction hk with
  | refl => exact h
  | step _ ih => exact .inl ih
theorem RchN.from {code : List Ins} {g : Int} {m v : Nat} (h : RchN code g (m + 1) v) (h0 : v ≠ 0) : ∃ u : Nat, RchN code g m u ∧ (v : Int) ∈ nextL code u ∧ (v : Int) ≠ g := by
  induction m with
  | zero =>
    rcases h with h | h
    · exact absurd h.1 h0
    · exact h
  | succ m ih =>
    rcases h with h | h
    · obtain ⟨u, h1, h2⟩ := ih h
      exact ⟨u, .inl h1, h2⟩
    · exact h
theorem RchN.by {code : List Ins} {g : Int} {m x : Nat} (b : Nat) (h : RchN code g m x) : RchN code (b : Int) m x ∨ RchN code g m b := by
  induction m generalizing x with
  | zero =>
    obtain ⟨rfl, hg⟩ := h
    by_cases hb : b = 0
    · subst hb; exact .inr ⟨rfl, hg⟩
    · exact .inl ⟨rfl, by omega⟩
  | succ m ih =>
    rcases h with h | ⟨u, h1, h2, h3⟩
    · rcases ih h with h | h
      · exact .inl (.inl h)
      · exact .inr (.inl h)
    · rcases ih h1 with h | h
      · by_cases hx : x = b
        · subst hx; exact .inr (.inr ⟨u, h1, h2, h3⟩)
        · exact .inl (.inr ⟨u, h, h2, by omega⟩)
      · exact .inr (.inl h)
theorem RchN.ne {code : List Ins} {g : Int} {m v : Nat} (h : RchN code g m v) : (v : Int) ≠ g := h.rch.ne

open Classical in
theorem countP_lt {p q : Nat → Prop} (l : List Nat) (hpq : ∀ x ∈ l, p x → q x) {y : Nat} (hy : y ∈ l) (h1 : q y) (h2 : ¬ p y) : l.countP (fun x => decide (p x)) + 1 ≤ l.countP (fun x => decide (q x)) := by
  induction l with
  | nil => simp at hy
  | cons z l ih =>
    rw [List.countP_cons, List.countP_cons]
    have hle : l.countP (fun x => decide (p x)) ≤ l.countP (fun x => decide (q x)) := List.countP_mono_left (fun x hx h => by simpa using hpq x (by simp [hx]) (by simpa using h))
    rcases List.mem_cons.1 hy with rfl | hy
    · simp [h1, h2]; omega
    · have := ih (fun x hx => hpq x (by simp [hx])) hy
      have hz := hpq z (by simp)
      by_cases hp : p z
      · simp [hp, hz hp]; omega
      · simp [hp]; split <;> omega

open Classical in
theorem Rch.short {code : List Ins} {g : Int} {x : Nat} (hh : 0 < code.length) (h : Rch code g x) : RchN code g code.length x := by
  have key : ∀ m, (∃ k, k < m ∧ ∀ v, RchN code g (k + 1) v → RchN code g k v) ∨ m ≤ (List.range code.length).countP (fun v => decide (RchN code g m v)) := by
    intro m
    induction m with
    | zero => exact .inr (Nat.zero_le _)
    | succ m ih =>
      rcases ih with ⟨k, h1, h2⟩ | ih
      · exact .inl ⟨k, by omega, h2⟩
      · by_cases hs : ∀ v, RchN code g (m + 1) v → RchN code g m v
        · exact .inl ⟨m, by omega, hs⟩
        · obtain ⟨v, hv⟩ := Classical.not_forall.1 hs
          have hv1 : RchN code g (m + 1) v := Classical.byContradiction fun e => hv (fun h => absurd h e)
          have hv2 : ¬ RchN code g m v := fun e => hv (fun _ => e)
          right
          have := countP_lt (p := RchN code g m) (q := RchN code g (m + 1)) (List.range code.length) (fun x _ h => .inl h) (List.mem_range.2 (hv1.rch.lt hh)) hv1 hv2
          omega
  rcases key (code.length + 1) with ⟨k, h1, h2⟩ | h1
  · have : ∀ v, Rch code g v → RchN code g k v := by
      intro v hv
      induction hv with
      | start hg => exact RchN.mono (m := 0) ⟨rfl, hg⟩ (Nat.zero_le _)
      | step _ hv hg ih => exact h2 _ (.inr ⟨_, ih, hv, hg⟩)
    exact (this x h).mono (by omega)
  · have := List.countP_le_length (p := fun v => decide (RchN code g (code.length + 1) v)) (l := List.range code.length)
    simp at this
    omega

/-- What is met on the way up from v. -/
inductive Anc (near : List Int) : Nat → Nat → Prop
  | refl (v : Nat) : Anc near v v
  | up {v p a : Nat} : v ≠ 0 → near.getD v 0 = (p : Int) → Anc near p a → Anc near v a

theorem Anc.trans {near : List Int} {a b c : Nat} (h : Anc near a b) (k : Anc near b c) : Anc near a c := by
  induction h with
  | refl _ => exact k
  | up h1 h2 _ ih => exact .up h1 h2 (ih k)
theorem Anc.zero {near : List Int} {a : Nat} (h : Anc near 0 a) : a = 0 := by
  cases h with
  | refl _ => rfl
  | up h _ _ => exact absurd rfl h

/-- The ranks are the order's. -/
def RankOK (l : List Nat) (rank : List Int) : Prop := ∀ (j v : Nat), l[j]? = some v → rank.getD v 0 = (j : Int)

section
variable {code : List Ins} {l : List Nat} {rank : List Int} (ho : OrdOK code l) (hr : RankOK l rank)
include ho hr
theorem rank_of {v : Nat} (h : Rch code (-1) v) : ∃ j : Nat, l[j]? = some v ∧ rank.getD v 0 = (j : Int) := by
  obtain ⟨j, hj⟩ := List.getElem?_of_mem ((ho.mem v).2 h)
  exact ⟨j, hj, hr j v hj⟩
theorem rank_inj {u v : Nat} (hu : Rch code (-1) u) (hv : Rch code (-1) v) (h : rank.getD u 0 = rank.getD v 0) : u = v := by
  obtain ⟨i, hi, e1⟩ := rank_of ho hr hu
  obtain ⟨j, hj, e2⟩ := rank_of ho hr hv
  have : i = j := by omega
  subst this
  rw [hi] at hj; exact Option.some.inj hj
theorem rank_zero : rank.getD 0 0 = 0 := by simpa using hr 0 0 ho.first
theorem rank_pos {v : Nat} (h : Rch code (-1) v) (h0 : v ≠ 0) : 0 < rank.getD v 0 := by
  obtain ⟨j, hj, e⟩ := rank_of ho hr h
  have : j ≠ 0 := by
    rintro rfl
    rw [ho.first] at hj
    exact h0 (Option.some.inj hj).symm
  omega
end

/-- What holds of the list all the while. -/
structure NOK (code : List Ins) (rank near : List Int) : Prop where
  len : near.length = code.length
  zero : near.getD 0 0 = 0
  unr : ∀ v, v < code.length → ¬ Rch code (-1) v → near.getD v 0 = -1
  loc : ∀ v, Rch code (-1) v → v ≠ 0 → near.getD v 0 = -1 ∨ ∃ p : Nat, near.getD v 0 = (p : Int) ∧ Rch code (-1) p ∧ rank.getD p 0 < rank.getD v 0 ∧ 0 ≤ near.getD p 0 ∧ ∀ a, Dom code a v → a ≠ v → Dom code a p

theorem NOK.par {code : List Ins} {rank near : List Int} (h : NOK code rank near) {v : Nat} (hv : Rch code (-1) v) (h0 : v ≠ 0) (hn : 0 ≤ near.getD v 0) :
    ∃ p : Nat, near.getD v 0 = (p : Int) ∧ Rch code (-1) p ∧ rank.getD p 0 < rank.getD v 0 ∧ 0 ≤ near.getD p 0 ∧ ∀ a, Dom code a v → a ≠ v → Dom code a p := by
  rcases h.loc v hv h0 with h1 | h1
  · omega
  · exact h1

theorem NOK.anc {code : List Ins} {rank near : List Int} (h : NOK code rank near) {x a : Nat} (ha : Anc near x a) (hx : Rch code (-1) x) (hn : 0 ≤ near.getD x 0) : Rch code (-1) a ∧ 0 ≤ near.getD a 0 ∧ rank.getD a 0 ≤ rank.getD x 0 ∧ (a ≠ x → rank.getD a 0 < rank.getD x 0) := by
  induction ha with
  | refl v => exact ⟨hx, hn, Int.le_refl _, fun h => absurd rfl h⟩
  | @up v p a h0 h1 _ ih =>
    obtain ⟨q, h2, h3, h4, h5, _⟩ := h.par hx h0 hn
    obtain rfl : p = q := by omega
    obtain ⟨i1, i2, i3, _⟩ := ih h3 h5
    exact ⟨i1, i2, by omega, fun _ => by omega⟩

theorem NOK.antisymm {code : List Ins} {l : List Nat} {rank near : List Int} (ho : OrdOK code l) (hr : RankOK l rank) (h : NOK code rank near) {x y : Nat} (h1 : Anc near x y) (h2 : Anc near y x) (hx : Rch code (-1) x) (hy : Rch code (-1) y) (nx : 0 ≤ near.getD x 0) (ny : 0 ≤ near.getD y 0) : x = y := by
  have a := (h.anc h1 hx nx).2.2.1
  have b := (h.anc h2 hy ny).2.2.1
  exact rank_inj ho hr hx hy (by omega)

/-- A dominator is met on the way up. -/
theorem NOK.dom {code : List Ins} {l : List Nat} {rank near : List Int} (ho : OrdOK code l) (hr : RankOK l rank) (h : NOK code rank near) : ∀ (m : Nat) (x a : Nat), rank.getD x 0 ≤ (m : Int) → Rch code (-1) x → 0 ≤ near.getD x 0 → Dom code a x → Anc near x a := by
  intro m
  induction m with
  | zero =>
    intro x a hm hx hn hd
    by_cases h0 : x = 0
    · subst h0; rw [hd.of_zero]; exact .refl _
    · have := rank_pos ho hr hx h0; omega
  | succ m ih =>
    intro x a hm hx hn hd
    by_cases h0 : x = 0
    · subst h0; rw [hd.of_zero]; exact .refl _
    · by_cases hax : a = x
      · subst hax; exact .refl _
      · obtain ⟨p, h1, h2, h3, h4, h5⟩ := h.par hx h0 hn
        exact .up h0 h1 (ih p a (by omega) h2 h4 (h5 a hd hax))
theorem NOK.domAnc {code : List Ins} {l : List Nat} {rank near : List Int} (ho : OrdOK code l) (hr : RankOK l rank) (h : NOK code rank near) {x a : Nat} (hx : Rch code (-1) x) (hn : 0 ≤ near.getD x 0) (hd : Dom code a x) : Anc near x a := by
  obtain ⟨j, _, e⟩ := rank_of ho hr hx
  exact h.dom ho hr j x a (by omega) hx hn hd

/-- On the way up from u to d a dominator stays one, until it is met. -/
theorem NOK.along {code : List Ins} {rank near : List Int} (h : NOK code rank near) {u d a : Nat} (hu : Anc near u d) (hx : Rch code (-1) u) (hn : 0 ≤ near.getD u 0) (hd : Dom code a u) (ha : Anc near d a) : Dom code a d := by
  induction hu with
  | refl v => exact hd
  | @up v p d h0 h1 h2 ih =>
    obtain ⟨q, g2, g3, g4, g5, g6⟩ := h.par hx h0 hn
    obtain rfl : p = q := by omega
    refine ih g3 g5 (g6 a hd (fun e => ?_)) ha
    subst e
    obtain ⟨i1, i2, i3, _⟩ := h.anc h2 g3 g5
    have := (h.anc ha i1 i2).2.2.1
    omega

/-- d is what the ways up from all of fs that are known have in common. -/
def Meet (code : List Ins) (near : List Int) (fs : List Nat) (d : Int) : Prop :=
  (d = -1 ∧ ∀ u ∈ fs, near.getD u 0 < 0) ∨ ∃ x : Nat, d = (x : Int) ∧ Rch code (-1) x ∧ 0 ≤ near.getD x 0 ∧ (∃ u ∈ fs, 0 ≤ near.getD u 0) ∧ ∀ a, Anc near x a ↔ ∀ u ∈ fs, 0 ≤ near.getD u 0 → Anc near u a

theorem Meet.start (code : List Ins) (near : List Int) : Meet code near [] (-1) := .inl ⟨rfl, fun u hu => by simp at hu⟩
theorem Meet.skip {code : List Ins} {near : List Int} {fs : List Nat} {d : Int} {u : Nat} (h : Meet code near fs d) (hu : near.getD u 0 < 0) : Meet code near (fs ++ [u]) d := by
  rcases h with ⟨h1, h2⟩ | ⟨x, h1, h2, h3, ⟨u0, h4, h5⟩, h6⟩
  · refine .inl ⟨h1, fun y hy => ?_⟩
    rw [List.mem_append, List.mem_singleton] at hy
    rcases hy with hy | rfl
    · exact h2 y hy
    · exact hu
  · refine .inr ⟨x, h1, h2, h3, ⟨u0, List.mem_append_left _ h4, h5⟩, fun a => ?_⟩
    rw [h6 a]
    constructor
    · intro h y hy hn
      rw [List.mem_append, List.mem_singleton] at hy
      rcases hy with hy | rfl
      · exact h y hy hn
      · omega
    · intro h y hy hn
      exact h y (List.mem_append_left _ hy) hn
theorem Meet.first {code : List Ins} {near : List Int} {fs : List Nat} {u : Nat} (h : Meet code near fs (-1)) (hr : Rch code (-1) u) (hu : 0 ≤ near.getD u 0) : Meet code near (fs ++ [u]) u := by
  rcases h with ⟨_, h2⟩ | ⟨x, h1, _⟩
  · refine .inr ⟨u, rfl, hr, hu, ⟨u, by simp, hu⟩, fun a => ?_⟩
    constructor
    · intro h y hy hn
      rw [List.mem_append, List.mem_singleton] at hy
      rcases hy with hy | rfl
      · have := h2 y hy; omega
      · exact h
    · intro h
      exact h u (by simp) hu
  · omega
/-- Two ways up, from d and from u: what they have in common. -/
def Both (near : List Int) (d0 u0 d u : Nat) : Prop := ∀ a, (Anc near d0 a ∧ Anc near u0 a) ↔ (Anc near d a ∧ Anc near u a)
theorem Meet.more {code : List Ins} {near : List Int} {fs : List Nat} {x u d : Nat} (h : Meet code near fs x) (hu : 0 ≤ near.getD u 0) (hd : Rch code (-1) d) (hdn : 0 ≤ near.getD d 0) (hb : Both near x u d d) : Meet code near (fs ++ [u]) d := by
  rcases h with ⟨h1, _⟩ | ⟨y, h1, h2, h3, ⟨u0, h4, h5⟩, h6⟩
  · omega
  · obtain rfl : x = y := by omega
    refine .inr ⟨d, rfl, hd, hdn, ⟨u0, List.mem_append_left _ h4, h5⟩, fun a => ?_⟩
    have e := hb a
    rw [and_self] at e
    rw [← e, h6 a]
    constructor
    · rintro ⟨h, k⟩ y hy hn
      rw [List.mem_append, List.mem_singleton] at hy
      rcases hy with hy | rfl
      · exact h y hy hn
      · exact k
    · intro h
      exact ⟨fun y hy hn => h y (List.mem_append_left _ hy) hn, h u (by simp) hu⟩

theorem Both.start (near : List Int) (d u : Nat) : Both near d u d u := fun _ => Iff.rfl
section
variable {code : List Ins} {l : List Nat} {rank near : List Int} (ho : OrdOK code l) (hr : RankOK l rank) (h : NOK code rank near) {d0 u0 d u : Nat}
  (hd : Rch code (-1) d) (nd : 0 ≤ near.getD d 0) (hu : Rch code (-1) u) (nu : 0 ≤ near.getD u 0) (hb : Both near d0 u0 d u)
include ho hr h hd nd hu nu hb
/-- A step up from the one of higher rank. -/
theorem Both.left (hlt : rank.getD u 0 < rank.getD d 0) : ∃ p : Nat, near.getD d 0 = (p : Int) ∧ Rch code (-1) p ∧ 0 ≤ near.getD p 0 ∧ rank.getD p 0 < rank.getD d 0 ∧ Both near d0 u0 p u := by
  have h0 : d ≠ 0 := by
    rintro rfl
    obtain ⟨j, _, e⟩ := rank_of ho hr hu
    have := rank_zero ho hr; omega
  obtain ⟨p, h1, h2, h3, h4, _⟩ := h.par hd h0 nd
  refine ⟨p, h1, h2, h4, h3, fun a => (hb a).trans ?_⟩
  constructor
  · rintro ⟨k1, k2⟩
    refine ⟨?_, k2⟩
    cases k1 with
    | refl _ => have := (h.anc k2 hu nu).2.2.1; omega
    | @up _ q _ _ g2 g3 =>
      obtain rfl : p = q := by omega
      exact g3
  · rintro ⟨k1, k2⟩
    exact ⟨.up h0 h1 k1, k2⟩
theorem Both.right (hne : d ≠ u) (hlt : ¬ rank.getD u 0 < rank.getD d 0) : ∃ p : Nat, near.getD u 0 = (p : Int) ∧ Rch code (-1) p ∧ 0 ≤ near.getD p 0 ∧ rank.getD p 0 < rank.getD u 0 ∧ Both near d0 u0 d p := by
  have hlt : rank.getD d 0 < rank.getD u 0 := by
    have : rank.getD d 0 ≠ rank.getD u 0 := fun e => hne (rank_inj ho hr hd hu e)
    omega
  have hb' : Both near u0 d0 u d := fun a => by have := hb a; exact ⟨fun k => (this.1 k.symm).symm, fun k => (this.2 k.symm).symm⟩
  obtain ⟨p, h1, h2, h3, h4, h5⟩ := Both.left ho hr h hu nu hd nd hb' hlt
  exact ⟨p, h1, h2, h3, h4, fun a => by have := h5 a; exact ⟨fun k => (this.1 k.symm).symm, fun k => (this.2 k.symm).symm⟩⟩
end

/-- fs are those that lead to v. -/
def Preds (code : List Ins) (v : Nat) (fs : List Nat) : Prop := ∀ u : Nat, u ∈ fs ↔ Rch code (-1) u ∧ (v : Int) ∈ nextL code u

/-- Within round k (so many are over), behind the first i of the order: what is known. -/
structure SInv (code : List Ins) (l : List Nat) (rank near : List Int) (k i : Nat) : Prop where
  ok : NOK code rank near
  done : ∀ (j v : Nat), l[j]? = some v → (0 < k ∨ j ≤ i) → 0 ≤ near.getD v 0
  up : ∀ (j v a m : Nat), l[j]? = some v → Anc near v a → m ≤ k + 1 → (m ≤ k ∨ j ≤ i) → ¬ RchN code (a : Int) m v

section
variable {code : List Ins} {l : List Nat} {rank near : List Int} (ho : OrdOK code l) (hr : RankOK l rank)
include ho hr

theorem SInv.known {k i v : Nat} {fs : List Nat} {d : Int} (h : SInv code l rank near k i) (hv : l[i + 1]? = some v) (hf : Preds code v fs) (hm : Meet code near fs d) :
    ∃ x : Nat, d = (x : Int) ∧ Rch code (-1) x ∧ 0 ≤ near.getD x 0 ∧ rank.getD x 0 < rank.getD v 0 ∧ (∀ a, Anc near x a ↔ ∀ u ∈ fs, 0 ≤ near.getD u 0 → Anc near u a) ∧ ∀ a, Dom code a v → a ≠ v → Dom code a x := by
  obtain ⟨j, p, hj, hp, hpv⟩ := ho.par (i + 1) v (by omega) hv
  have hpr : Rch code (-1) p := (ho.mem p).1 (List.mem_of_getElem? hp)
  have hpn : 0 ≤ near.getD p 0 := h.done j p hp (.inr (by omega))
  have hpf : p ∈ fs := (hf p).2 ⟨hpr, hpv⟩
  have hrv := hr _ _ hv
  have hrp := hr _ _ hp
  rcases hm with ⟨_, h2⟩ | ⟨x, h1, h2, h3, _, h6⟩
  · have := h2 p hpf; omega
  · have hpx : Anc near p x := (h6 x).1 (.refl x) p hpf hpn
    have hrx := (h.ok.anc hpx hpr hpn).2.2.1
    refine ⟨x, h1, h2, h3, by omega, h6, fun a ha hne => ?_⟩
    have hau : ∀ u ∈ fs, 0 ≤ near.getD u 0 → Anc near u a := fun u hu hn => h.ok.domAnc ho hr ((hf u).1 hu).1 hn (ha.pred hne ((hf u).1 hu).1 ((hf u).1 hu).2)
    exact h.ok.along hpx hpr hpn (ha.pred hne hpr hpv) ((h6 a).2 hau)

/-- The next one of the order gets its new nearest one. -/
theorem SInv.next {k i v : Nat} {fs : List Nat} {d : Int} (h : SInv code l rank near k i) (hv : l[i + 1]? = some v) (hf : Preds code v fs) (hm : Meet code near fs d) : SInv code l rank (near.set v d) k (i + 1) := by
  obtain ⟨x, rfl, hx1, hx2, hx3, hx4, hx5⟩ := h.known ho hr hv hf hm
  have hvr : Rch code (-1) v := (ho.mem v).1 (List.mem_of_getElem? hv)
  have hh : 0 < code.length := by
    have := h.ok.len
    rcases Nat.eq_zero_or_pos code.length with h0 | h0
    · exfalso
      have : ∀ y, Rch code (-1) y → False := by
        intro y hy
        have h9 := h.ok.zero
        have h8 : near = [] := List.eq_nil_of_length_eq_zero (by rw [h.ok.len, h0])
        obtain ⟨j, p, hj, hp, hpv⟩ := ho.par (i + 1) v (by omega) hv
        have := nextL_range hpv; omega
      exact this _ hvr
    · exact h0
  have hvl : v < near.length := by rw [h.ok.len]; exact hvr.lt hh
  have hrv := hr _ _ hv
  have hv0 : v ≠ 0 := by
    rintro rfl
    have := rank_zero ho hr; omega
  have hg : ∀ y, (near.set v (x : Int)).getD y 0 = if y = v then (x : Int) else near.getD y 0 := fun y => by
    rw [getD_set _ _ _ _ _ hvl]
  have hpos : ∀ y, 0 ≤ near.getD y 0 → 0 ≤ (near.set v (x : Int)).getD y 0 := fun y hy => by
    rw [hg]; split
    · omega
    · exact hy
  -- the ways up, old and new
  have hold : ∀ y a, Anc (near.set v (x : Int)) y a → Anc near y a ∨ (Anc near y v ∧ Anc near x a) := by
    intro y a hya
    induction hya with
    | refl y => exact .inl (.refl y)
    | @up y p a h0 h1 h2 ih =>
      rw [hg] at h1
      by_cases hyv : y = v
      · subst hyv
        rw [if_pos rfl] at h1
        obtain rfl : x = p := by omega
        rcases ih with ih | ih
        · exact .inr ⟨.refl _, ih⟩
        · exact .inr ⟨.refl _, ih.2⟩
      · rw [if_neg hyv] at h1
        rcases ih with ih | ih
        · exact .inl (.up h0 h1 ih)
        · exact .inr ⟨.up h0 h1 ih.1, ih.2⟩
  have hupv : ∀ a, Anc near x a → ¬ RchN code (a : Int) (k + 1) v := by
    intro a ha hrn
    obtain ⟨u, hu1, hu2, _⟩ := hrn.from hv0
    have hur : Rch code (-1) u := hu1.rch.any
    have hun : 0 ≤ near.getD u 0 := by
      obtain ⟨j, hj⟩ := List.getElem?_of_mem ((ho.mem u).2 hur)
      by_cases hk : 0 < k
      · exact h.done j u hj (.inl hk)
      · obtain rfl : k = 0 := by omega
        rw [hu1.1]; rw [h.ok.zero]; decide
    have hua := (hx4 a).1 ha u ((hf u).2 ⟨hur, hu2⟩) hun
    obtain ⟨j, hj⟩ := List.getElem?_of_mem ((ho.mem u).2 hur)
    exact h.up j u a k hj hua (by omega) (.inl (Nat.le_refl _)) hu1
  refine ⟨⟨by rw [List.length_set]; exact h.ok.len, by rw [hg, if_neg hv0.symm]; exact h.ok.zero, fun y hy hn => ?_, fun y hy h0 => ?_⟩, fun j y hj hk => ?_, fun j y a m hj ha hm hk => ?_⟩
  · rw [hg, if_neg (fun e => hn (by rw [e]; exact hvr))]
    exact h.ok.unr y hy hn
  · rw [hg]
    by_cases hyv : y = v
    · subst hyv
      rw [if_pos rfl]
      exact .inr ⟨x, rfl, hx1, hx3, hpos x hx2, hx5⟩
    · rw [if_neg hyv]
      rcases h.ok.loc y hy h0 with h1 | ⟨p, h1, h2, h3, h4, h5⟩
      · exact .inl h1
      · exact .inr ⟨p, h1, h2, h3, hpos p h4, h5⟩
  · by_cases hji : j = i + 1
    · subst hji
      rw [hv] at hj
      obtain rfl : v = y := Option.some.inj hj
      rw [hg, if_pos rfl]; omega
    · exact hpos y (h.done j y hj (by omega))
  · intro hrn
    by_cases hji : j = i + 1
    · subst hji
      rw [hv] at hj
      obtain rfl : v = y := Option.some.inj hj
      cases ha with
      | refl _ => exact hrn.ne rfl
      | @up _ p _ h0 h1 h2 =>
        rw [hg, if_pos rfl] at h1
        obtain rfl : x = p := by omega
        have : Anc near x a := by
          rcases hold x a h2 with h3 | h3
          · exact h3
          · exact h3.2
        exact hupv a this (hrn.mono hm)
    · have hk' : m ≤ k ∨ j ≤ i := by omega
      rcases hold y a ha with h1 | ⟨h1, h2⟩
      · exact h.up j y a m hj h1 hm hk' hrn
      · rcases hrn.by v with h3 | h3
        · exact h.up j y v m hj h1 hm hk' h3
        · exact hupv a h2 (h3.mono hm)

omit hr in
/-- A round is over: the next one begins. -/
theorem SInv.turn {k i : Nat} (h : SInv code l rank near k i) (hi : l.length ≤ i + 1) : SInv code l rank near (k + 1) 0 := by
  refine ⟨h.ok, fun j v hj _ => ?_, fun j v a m hj ha hm hk => ?_⟩
  · have := (List.getElem?_eq_some_iff.1 hj).1
    exact h.done j v hj (.inr (by omega))
  · have hl := (List.getElem?_eq_some_iff.1 hj).1
    rcases hk with hk | hk
    · exact h.up j v a m hj ha hk (.inr (by omega))
    · obtain rfl : j = 0 := by omega
      have hv0 : v = 0 := by
        have := ho.first
        rw [hj] at this
        exact Option.some.inj this
      subst hv0
      rw [ha.zero]
      intro hrn
      exact hrn.ne rfl

omit hr in
theorem SInv.start (hh : 0 < code.length) : SInv code l rank ((List.replicate code.length (-1)).set 0 0) 0 0 := by
  have hg : ∀ y, y < code.length → ((List.replicate code.length (-1 : Int)).set 0 0).getD y 0 = if y = 0 then 0 else -1 := fun y hy => by
    rw [getD_set _ _ _ _ _ (by simpa using hh)]
    split
    · rfl
    · simp [List.getD, hy]
  have hv0 : ∀ (j v : Nat), l[j]? = some v → j ≤ 0 → v = 0 := fun j v hj h => by
    obtain rfl : j = 0 := by omega
    have := ho.first
    rw [hj] at this
    exact Option.some.inj this
  refine ⟨⟨by simp, by rw [hg 0 hh, if_pos rfl], fun v hv hn => ?_, fun v hv h0 => ?_⟩, fun j v hj hk => ?_, fun j v a m hj ha hm hk => ?_⟩
  · rw [hg v hv, if_neg (fun e => hn (by rw [e]; exact .start (by decide)))]
  · left
    rw [hg v (hv.lt hh), if_neg h0]
  · rcases hk with hk | hk
    · omega
    · rw [hv0 j v hj hk, hg 0 hh, if_pos rfl]; decide
  · have hvr : Rch code (-1) v := (ho.mem v).1 (List.mem_of_getElem? hj)
    intro hrn
    by_cases h0 : v = 0
    · subst h0; rw [ha.zero] at hrn; exact hrn.ne rfl
    · rcases hk with hk | hk
      · obtain rfl : m = 0 := by omega
        exact h0 hrn.1
      · exact h0 (hv0 j v hj hk)

/-- Behind as many rounds as there are instructions nothing changes. -/
theorem SInv.still {k i v : Nat} {fs : List Nat} {d : Int} (hh : 0 < code.length) (h : SInv code l rank near k i) (hk : code.length ≤ k) (hv : l[i + 1]? = some v) (hf : Preds code v fs) (hm : Meet code near fs d) : near.getD v 0 = d := by
  obtain ⟨x, rfl, hx1, hx2, hx3, hx4, hx5⟩ := h.known ho hr hv hf hm
  have hvr : Rch code (-1) v := (ho.mem v).1 (List.mem_of_getElem? hv)
  have hrv := hr _ _ hv
  have hv0 : v ≠ 0 := by
    rintro rfl
    have := rank_zero ho hr; omega
  have hall : ∀ y, Rch code (-1) y → 0 ≤ near.getD y 0 := fun y hy => by
    obtain ⟨j, hj⟩ := List.getElem?_of_mem ((ho.mem y).2 hy)
    exact h.done j y hj (.inl (by omega))
  have hdom : ∀ y a, Rch code (-1) y → Anc near y a → Dom code a y := fun y a hy ha => by
    obtain ⟨j, hj⟩ := List.getElem?_of_mem ((ho.mem y).2 hy)
    refine ⟨(h.ok.anc ha hy (hall y hy)).1, hy, .inr (fun hr' => ?_)⟩
    exact h.up j y a code.length hj ha (by omega) (.inl hk) (hr'.short hh)
  obtain ⟨p, h1, h2, h3, h4, h5⟩ := h.ok.par hvr hv0 (hall v hvr)
  rw [h1]
  have hpd : Dom code p v := hdom v p hvr (.up hv0 h1 (.refl p))
  have hpv : p ≠ v := by rintro rfl; omega
  have e1 : Anc near x p := (hx4 p).2 fun u hu hn => h.ok.domAnc ho hr ((hf u).1 hu).1 hn (hpd.pred hpv ((hf u).1 hu).1 ((hf u).1 hu).2)
  have hxv : x ≠ v := by rintro rfl; omega
  have hxd : Dom code x v := by
    refine ⟨hx1, hvr, .inr (fun hr' => ?_)⟩
    cases hr' with
    | start _ => exact hv0 rfl
    | @step u _ hu hv' _ =>
      have := hdom u x hu.any ((hx4 x).1 (.refl x) u ((hf u).2 ⟨hu.any, hv'⟩) (hall u hu.any))
      rcases this.2.2 with e | e
      · exact hu.ne (by rw [e])
      · exact e hu
  have e2 : Anc near p x := h.ok.domAnc ho hr h2 h4 (h5 x hxd hxv)
  rw [h.ok.antisymm ho hr e2 e1 h2 hx1 h4 hx2]

omit hr in
/-- Where a round changes nothing, the nearest dominators are found. -/
theorem SInv.tree {k i : Nat} (hh : 0 < code.length) (h : SInv code l rank near k i) (hi : l.length ≤ i + 1) (hfix : ∀ (j v : Nat), 0 < j → l[j]? = some v → ∃ fs, Preds code v fs ∧ Meet code near fs (near.getD v 0)) : IsTree code (near.set 0 (-1)) := by
  have hall : ∀ y, Rch code (-1) y → 0 ≤ near.getD y 0 := fun y hy => by
    obtain ⟨j, hj⟩ := List.getElem?_of_mem ((ho.mem y).2 hy)
    have := (List.getElem?_eq_some_iff.1 hj).1
    exact h.done j y hj (.inr (by omega))
  have hanc : ∀ (a : Nat) x, Rch code (a : Int) x → ¬ Anc near x a := by
    intro a x hx
    induction hx with
    | start h0 =>
      intro ha
      exact h0 (by rw [ha.zero]; rfl)
    | @step u v hu hv hne ih =>
      intro ha
      cases ha with
      | refl _ => exact hne rfl
      | @up _ p _ h0 h1 h2 =>
        have hvr : Rch code (-1) v := .step hu.any hv (by omega)
        obtain ⟨j, hj⟩ := List.getElem?_of_mem ((ho.mem v).2 hvr)
        have hj0 : 0 < j := by
          rcases Nat.eq_zero_or_pos j with e | e
          · subst e; rw [ho.first] at hj; exact absurd (Option.some.inj hj).symm h0
          · exact e
        obtain ⟨fs, hf, hm⟩ := hfix j v hj0 hj
        rcases hm with ⟨hm, _⟩ | ⟨x, hm, _, _, _, h6⟩
        · rw [hm] at h1; omega
        · obtain rfl : p = x := by omega
          exact ih ((h6 a).1 h2 u ((hf u).2 ⟨hu.any, hv⟩) (hall u hu.any))
  refine ⟨by rw [List.length_set]; exact h.ok.len, fun v hv h0 => ?_, fun v hv h0 hvr => ?_⟩
  · rw [getD_set _ _ _ _ _ (by rw [h.ok.len]; exact hh)]
    rcases h0 with h0 | h0
    · rw [if_pos h0]
    · split
      · rfl
      · exact h.ok.unr v hv h0
  · rw [getD_set _ _ _ _ _ (by rw [h.ok.len]; exact hh), if_neg h0]
    obtain ⟨p, h1, h2, h3, h4, h5⟩ := h.ok.par hvr h0 (hall v hvr)
    exact ⟨p, h1, by rintro rfl; omega, ⟨h2, hvr, .inr (fun hr' => hanc p v hr' (.up h0 h1 (.refl p)))⟩, h5⟩
end
end Go.Proofs.YtapjdndcnenadaaDoor
