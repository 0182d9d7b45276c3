/- calls.Order: those that are called ahead of those that call them, or the first ring. -/
import Derived.Test.YtggkeodoenhmoaaDoorWaits
namespace Go.Proofs.YtggkeodoenhmoaaDoor
open Go.RowKit Go.Maps

/-- What the order of a module is, or why there is none. -/
def OrderIs (F : List FR) (l : List Int) (E f a : Int) : Prop :=
  (32 < F.length ∧ l = [] ∧ E = 3 ∧ f = 32 ∧ a = 0) ∨
  (F.length ≤ 32 ∧ l = [] ∧ E = 75 ∧ ∃ (j k : Nat) (p : Pr), f = (j : Int) ∧ j < F.length ∧ RingAt F j k ∧ (callsFn F j)[k]? = some p ∧ a = p.1 ∧ ∀ i : Nat, i < j → ¬ Lead F i i) ∨
  (F.length ≤ 32 ∧ Ord F l ∧ l.length = F.length ∧ (∀ x, ¬ Lead F x x) ∧ E = 0 ∧ f = 0 ∧ a = 0)
theorem RingAt.unique {F : List FR} {f : Int} {k m : Nat} (h : RingAt F f k) (h' : RingAt F f m) : k = m := by
  obtain ⟨_, ⟨p, hp, hb⟩, hn⟩ := h
  obtain ⟨_, ⟨q, hq, hc⟩, hn'⟩ := h'
  have h1 : ¬ k < m := fun hl => hn' k p hl hp hb
  have h2 : ¬ m < k := fun hl => hn m q hl hq hc
  omega
theorem OrderIs.unique {F : List FR} {l l' : List Int} {E f a E' f' a' : Int} (h : OrderIs F l E f a) (h' : OrderIs F l' E' f' a') : l = l' ∧ E = E' ∧ f = f' ∧ a = a' := by
  rcases h with ⟨h0, rfl, rfl, rfl, rfl⟩ | ⟨h0, rfl, rfl, j, k, p, rfl, hj, hr, hp, rfl, hn⟩ | ⟨h0, ho, hl, hn, rfl, rfl, rfl⟩ <;>
  rcases h' with ⟨h0', rfl, rfl, rfl, rfl⟩ | ⟨h0', rfl, rfl, j', k', p', rfl, hj', hr', hp', rfl, hn'⟩ | ⟨h0', ho', hl', hn', rfl, rfl, rfl⟩
  · exact ⟨rfl, rfl, rfl, rfl⟩
  · omega
  · omega
  · omega
  · have e : j = j' := by
      have h1 : ¬ j < j' := fun hl => hn' j hl hr.1
      have h2 : ¬ j' < j := fun hl => hn j' hl hr'.1
      omega
    subst e
    have := hr.unique hr'
    subst this
    rw [hp] at hp'
    cases hp'
    exact ⟨rfl, rfl, rfl, rfl⟩
  · exact absurd hr.1 (hn' _)
  · omega
  · exact absurd hr'.1 (hn _)
  · exact ⟨Ord.unique _ ho ho' hl hl', rfl, rfl, rfl⟩

abbrev faultV (E f a : Int) : Value := .agg #[.int .i64 E, .int .i64 f, .int .i64 a]
def RetOrder (F : List FR) (w : World) (e : Ending) (w' : World) : Prop :=
  ∃ v l E f a, e = .returned (.tuple #[v, faultV E f a]) ∧ OwnInts w' w.heap.size v l ∧ OrderIs F l E f a ∧ Below w.heap.size w w'

/-- The sets of the waiting ones: what they call and is not done. -/
structure WSets (F : List FR) (w : World) (bw : Nat) (cs : List Nat) (d : List Int) : Prop where
  lo : ∀ (x c : Nat), cs[x]? = some c → bw < c ∧ c < w.heap.size
  set : ∀ (x c : Nat), cs[x]? = some c → ¬ (x : Int) ∈ d → ∃ S, SetAt w c S ∧ ∀ y, y ∈ S ↔ y ∈ ofFn F x ∧ ¬ y ∈ d
  inj : ∀ (x y c : Nat), cs[x]? = some c → cs[y]? = some c → x = y
theorem WSets.kept {F : List FR} {w w' : World} {bw : Nat} {cs : List Nat} {d : List Int} (h : WSets F w bw cs d) (hk : ∀ (x c : Nat), cs[x]? = some c → w'.heap[c]? = w.heap[c]?) (hs : w.heap.size ≤ w'.heap.size) : WSets F w' bw cs d :=
  ⟨fun x c hc => ⟨(h.lo x c hc).1, Nat.lt_of_lt_of_le (h.lo x c hc).2 hs⟩, fun x c hc hd => by
    obtain ⟨S, ⟨D, ⟨es, clock, hh, r2⟩, r⟩, h3⟩ := h.set x c hc hd
    exact ⟨S, ⟨D, ⟨es, clock, (hk x c hc).trans hh, r2⟩, r⟩, h3⟩, h.inj⟩
theorem WSets.snoc {F : List FR} {w : World} {bw c : Nat} {cs : List Nat} {S : List Int} (h : WSets F w bw cs []) (hc : bw < c) (hS : SetAt w c S) (hSl : ∀ y, y ∈ S ↔ y ∈ ofFn F (cs.length : Nat)) (hn : ∀ (x c' : Nat), cs[x]? = some c' → c' < c) : WSets F w bw (cs ++ [c]) [] := by
  have key : ∀ (x c' : Nat), (cs ++ [c])[x]? = some c' → (x < cs.length ∧ cs[x]? = some c') ∨ (x = cs.length ∧ c' = c) := fun x c' hx => by
    by_cases hl : x < cs.length
    · rw [List.getElem?_append_left hl] at hx; exact .inl ⟨hl, hx⟩
    · have := (List.getElem?_eq_some_iff.1 hx).1
      rw [List.getElem?_append_right (by omega)] at hx
      simp at this
      have e : x = cs.length := by omega
      subst e
      exact .inr ⟨rfl, by simpa using hx.symm⟩
  refine ⟨fun x c' hx => ?_, fun x c' hx hd => ?_, fun x y c' hx hy => ?_⟩
  · rcases key x c' hx with ⟨_, h1⟩ | ⟨_, rfl⟩
    · exact h.lo x c' h1
    · exact ⟨hc, hS.lt⟩
  · rcases key x c' hx with ⟨_, h1⟩ | ⟨rfl, rfl⟩
    · exact h.set x c' h1 hd
    · exact ⟨S, hS, fun y => by simp [hSl]⟩
  · rcases key x c' hx with ⟨_, h1⟩ | ⟨h2, h3⟩ <;> rcases key y c' hy with ⟨_, h4⟩ | ⟨h5, h6⟩
    · exact h.inj x y c' h1 h4
    · have := hn x c' h1; omega
    · have := hn y c' h4; omega
    · omega

/-- The least of those that have been looked at and wait for nobody; -1: none yet. -/
def LeastOK (F : List FR) (n : Nat) (l : List Int) (left : Lit → Bool) (nx : Int) : Prop :=
  (nx = -1 ∧ ∀ x : Nat, x < n → ¬ (x : Int) ∈ l → left (.int .i64 (x : Int)) = false → ∃ g ∈ ofFn F x, ¬ g ∈ l) ∨
  (∃ z : Nat, nx = (z : Int) ∧ z < n ∧ ¬ (z : Int) ∈ l ∧ (∀ g ∈ ofFn F z, g ∈ l) ∧ ∀ x : Nat, x < n → ¬ (x : Int) ∈ l → left (.int .i64 (x : Int)) = false → x < z → ∃ g ∈ ofFn F x, ¬ g ∈ l)
theorem strike_false {left : Lit → Bool} {x y : Nat} (h : (fun z : Lit => left z && !z.sameKey (.int .i64 (x : Int))) (.int .i64 (y : Int)) = false) : left (.int .i64 (y : Int)) = false ∨ y = x := by
  simp only [Bool.and_eq_false_iff, Bool.not_eq_false'] at h
  rcases h with h | h
  · exact .inl h
  · have := (WideAt.sameKey_iff (isKeyInt (x : Int))).1 h
    cases this; exact .inr rfl
theorem LeastOK.start {F : List FR} {n : Nat} {l : List Int} {left : Lit → Bool} (h : ∀ x : Nat, x < n → ¬ (x : Int) ∈ l → left (.int .i64 (x : Int)) = true) : LeastOK F n l left (-1) :=
  .inl ⟨rfl, fun x hx hd hl => by rw [h x hx hd] at hl; cases hl⟩
theorem LeastOK.blocked {F : List FR} {n : Nat} {l : List Int} {left : Lit → Bool} {nx : Int} {x : Nat} (h : LeastOK F n l left nx) (hx : ∃ g ∈ ofFn F x, ¬ g ∈ l) : LeastOK F n l (fun z => left z && !z.sameKey (.int .i64 (x : Int))) nx := by
  rcases h with ⟨h1, h2⟩ | ⟨z, h1, h2, h3, h4, h5⟩
  · exact .inl ⟨h1, fun y hy hd hl => by
      rcases strike_false hl with hl | rfl
      · exact h2 y hy hd hl
      · exact hx⟩
  · exact .inr ⟨z, h1, h2, h3, h4, fun y hy hd hl hz => by
      rcases strike_false hl with hl | rfl
      · exact h5 y hy hd hl hz
      · exact hx⟩
theorem LeastOK.take {F : List FR} {n : Nat} {l : List Int} {left : Lit → Bool} {nx : Int} {x : Nat} (h : LeastOK F n l left nx) (hxn : x < n) (hxl : ¬ (x : Int) ∈ l) (hx : ∀ g ∈ ofFn F x, g ∈ l) (hlt : nx < 0 ∨ (x : Int) < nx) : LeastOK F n l (fun z => left z && !z.sameKey (.int .i64 (x : Int))) x := by
  refine .inr ⟨x, rfl, hxn, hxl, hx, fun y hy hd hl hyx => ?_⟩
  rcases strike_false hl with hl | rfl
  · rcases h with ⟨_, h2⟩ | ⟨z, h1, _, _, _, h5⟩
    · exact h2 y hy hd hl
    · exact h5 y hy hd hl (by omega)
  · omega
theorem LeastOK.leave {F : List FR} {n : Nat} {l : List Int} {left : Lit → Bool} {nx : Int} {x : Nat} (h : LeastOK F n l left nx) (hge : ¬ nx < 0) (hge2 : ¬ (x : Int) < nx) : LeastOK F n l (fun z => left z && !z.sameKey (.int .i64 (x : Int))) nx := by
  rcases h with ⟨h1, h2⟩ | ⟨z, h1, h2, h3, h4, h5⟩
  · omega
  · exact .inr ⟨z, h1, h2, h3, h4, fun y hy hd hl hz => by
      rcases strike_false hl with hl | rfl
      · exact h5 y hy hd hl hz
      · omega⟩
theorem LeastOK.done {F : List FR} {l : List Int} {left : Lit → Bool} {nx : Int} (h : LeastOK F F.length l left nx) (hl : ∀ kl, left kl = false) (hr : ∀ f, ¬ Lead F f f) (hd : ∃ x, 0 ≤ x ∧ x < (F.length : Int) ∧ ¬ x ∈ l) : ∃ z : Nat, nx = (z : Int) ∧ NextIs F l z := by
  obtain ⟨x0, hx0⟩ := next_exists hr hd
  have e0 : ((x0.toNat : Nat) : Int) = x0 := by have := hx0.lo; omega
  rcases h with ⟨_, h2⟩ | ⟨z, h1, h2, h3, h4, h5⟩
  · exfalso
    obtain ⟨g, hg, hn⟩ := h2 x0.toNat (by have := hx0.hi; omega) (by rw [e0]; exact hx0.new) (hl _)
    rw [e0] at hg
    exact hn (hx0.free g hg)
  · refine ⟨z, h1, by omega, by omega, h3, h4, fun y hy0 hyz hyl => ?_⟩
    have e1 : ((y.toNat : Nat) : Int) = y := by omega
    obtain ⟨g, hg, hn⟩ := h5 y.toNat (by omega) (by rw [e1]; exact hyl) (hl _) (by omega)
    rw [e1] at hg
    exact ⟨g, hg, hn⟩

/-- What the last round takes out of the sets: z, of those that have been looked at. -/
structure Struck (F : List FR) (w : World) (cs : List Nat) (l : List Int) (z : Int) (left : Lit → Bool) : Prop where
  set : ∀ (x c : Nat), cs[x]? = some c → ¬ (x : Int) ∈ l → ∃ S, SetAt w c S ∧ ∀ y, y ∈ S ↔ y ∈ ofFn F x ∧ ¬ y ∈ l ∧ (left (.int .i64 (x : Int)) = true ∨ y ≠ z)
theorem Struck.start {F : List FR} {w w' : World} {bw : Nat} {cs : List Nat} {l : List Int} {z : Int} {left : Lit → Bool} (h : WSets F w bw cs l) (hk : ∀ (x c : Nat), cs[x]? = some c → w'.heap[c]? = w.heap[c]?)
    (hl : ∀ x : Nat, x < cs.length → ¬ (x : Int) ∈ l ++ [z] → left (.int .i64 (x : Int)) = true) (hz : ∀ x : Nat, (x : Int) = z → ∀ y ∈ ofFn F x, y ≠ z) : Struck F w' cs l z left := ⟨fun x c hc hd => by
  obtain ⟨S, hS, hSl⟩ := h.set x c hc hd
  refine ⟨S, hS.at_block (hk x c hc), fun y => ?_⟩
  rw [hSl]
  by_cases hx : (x : Int) = z
  · constructor
    · rintro ⟨h1, h2⟩; exact ⟨h1, h2, .inr (hz x hx y h1)⟩
    · rintro ⟨h1, h2, _⟩; exact ⟨h1, h2⟩
  · have := hl x (List.getElem?_eq_some_iff.1 hc).1 (by simp; exact ⟨hd, hx⟩)
    simp [this]⟩
theorem Struck.next {F : List FR} {w w' : World} {cs : List Nat} {l : List Int} {z : Int} {left : Lit → Bool} {x c : Nat} (h : Struck F w cs l z left) (hinj : ∀ (x y c : Nat), cs[x]? = some c → cs[y]? = some c → x = y) (hc : cs[x]? = some c)
    (hk : ∀ (y c' : Nat), cs[y]? = some c' → c' ≠ c → w'.heap[c']? = w.heap[c']?) {S : List Int} (hS0 : SetAt w c S) (hSl : ∀ y, y ∈ S ↔ y ∈ ofFn F x ∧ ¬ y ∈ l ∧ (left (.int .i64 (x : Int)) = true ∨ y ≠ z)) (hS : SetAt w' c (S.erase z)) : Struck F w' cs l z (fun y => left y && !y.sameKey (.int .i64 (x : Int))) := ⟨fun y c' hc' hd => by
  by_cases e : y = x
  · subst e
    rw [hc] at hc'; cases hc'
    refine ⟨_, hS, fun u => ?_⟩
    rw [hS0.nodup.mem_erase_iff, hSl]
    have : (fun y_1 : Lit => left y_1 && !y_1.sameKey (.int .i64 (y : Int))) (.int .i64 (y : Int)) = false := by simp [WideAt.sameKey_self (isKeyInt (y : Int))]
    simp only [this]
    constructor
    · rintro ⟨h1, h2, h3, _⟩; exact ⟨h2, h3, .inr h1⟩
    · rintro ⟨h2, h3, h4⟩
      rcases h4 with h4 | h4
      · cases h4
      · exact ⟨h4, h2, h3, .inr h4⟩
  · obtain ⟨S, hS0, hSl⟩ := h.set y c' hc' hd
    refine ⟨S, hS0.at_block (hk y c' hc' (fun e2 => e (hinj y x c (by rw [← e2]; exact hc') hc))), fun u => ?_⟩
    rw [hSl]
    have : (fun y_1 : Lit => left y_1 && !y_1.sameKey (.int .i64 (x : Int))) (.int .i64 (y : Int)) = left (.int .i64 (y : Int)) := by
      simp only [Maps.sameKey_ne (a := .int .i64 (y : Int)) (b := .int .i64 (x : Int)) (by intro h; cases h; exact e rfl), Bool.not_false, Bool.and_true]
    simp only [this]⟩
theorem Struck.done {F : List FR} {w w0 : World} {bw : Nat} {cs : List Nat} {l : List Int} {z : Int} {left : Lit → Bool} (h : Struck F w cs l z left) (hl : ∀ kl, left kl = false) (h0 : WSets F w0 bw cs l) (hs : w0.heap.size ≤ w.heap.size) : WSets F w bw cs (l ++ [z]) :=
  ⟨fun x c hc => ⟨(h0.lo x c hc).1, Nat.lt_of_lt_of_le (h0.lo x c hc).2 hs⟩, fun x c hc hd => by
    obtain ⟨S, hS, hSl⟩ := h.set x c hc (fun hx => hd (by simp [hx]))
    refine ⟨S, hS, fun y => ?_⟩
    rw [hSl, hl]
    simp, h0.inj⟩
theorem OwnInts.at_block {w w' : World} {B : Nat} {v : Value} {l : List Int} (h : OwnInts w B v l) (hk : ∀ g, v.ownBlock = some g → w'.heap[g]? = w.heap[g]?) : OwnInts w' B v l := by
  obtain ⟨h1, h2⟩ := h
  refine ⟨h1, ?_⟩
  rcases h2 with h2 | ⟨g, cap, cur, rfl, hg, hh, r⟩
  · exact .inl h2
  · exact .inr ⟨g, cap, cur, rfl, hg, by rw [hk g rfl]; exact hh, r⟩

/-- What stands: the module's box, the fault's cell. -/
structure OW (w wr : World) (vt vf : Value) : Prop where
  box : ModAt wr w.heap.size vt vf
  f0 : wr.cell? ⟨w.heap.size + 1, 0, none⟩ = some (.int .i64 0)
  f1 : wr.cell? ⟨w.heap.size + 1, 1, none⟩ = some (.int .i64 0)
  f2 : wr.cell? ⟨w.heap.size + 1, 2, none⟩ = some (.int .i64 0)
  fz : ∀ j, wr.frozen? ⟨w.heap.size + 1, j, none⟩ = false
  below : Below w.heap.size w wr
  size : w.heap.size + 2 ≤ wr.heap.size
theorem OW.later {w wr w' : World} {vt vf : Value} {B : Nat} (h : OW w wr vt vf) (hb : Below B wr w') (hB : w.heap.size + 2 ≤ B) : OW w w' vt vf :=
  ⟨h.box.later hb (by omega), (hb.cell (p := ⟨w.heap.size + 1, 0, none⟩) (by show w.heap.size + 1 < _; omega)).trans h.f0, (hb.cell (p := ⟨w.heap.size + 1, 1, none⟩) (by show w.heap.size + 1 < _; omega)).trans h.f1,
   (hb.cell (p := ⟨w.heap.size + 1, 2, none⟩) (by show w.heap.size + 1 < _; omega)).trans h.f2, fun j => (hb.frozen (p := ⟨w.heap.size + 1, j, none⟩) (by show w.heap.size + 1 < _; omega)).trans (h.fz j), h.below.trans (hb.mono (by omega)), Nat.le_trans h.size hb.size⟩
theorem OW.start (w : World) (vt vf : Value) : OW w ((w.alloc (.cells #[vt, vf] 25)).alloc (.cells #[.int .i64 0, .int .i64 0, .int .i64 0] 35)) vt vf := by
  have e : ∀ j u, (#[Value.int .i64 0, .int .i64 0, .int .i64 0] : Array Value)[j]? = some u → ((w.alloc (.cells #[vt, vf] 25)).alloc (.cells #[.int .i64 0, .int .i64 0, .int .i64 0] 35)).cell? ⟨w.heap.size + 1, j, none⟩ = some u := fun j u hu => by
    rw [World.cell?_alloc_at _ _ _ _ (by simp)]; exact hu
  exact ⟨(ModAt.box w vt vf _).later ((Below.refl (w.heap.size + 1) _).alloc (by (try simp only [World.size_alloc]); (try simp only [size_set]); omega) _) (Nat.lt_succ_self _), e 0 _ rfl, e 1 _ rfl, e 2 _ rfl, fun j => by rw [World.frozen?_alloc_at _ _ _ _ (by simp)], ((Below.refl _ _).alloc (Nat.le_refl _) _).alloc (by (try simp only [World.size_alloc]); (try simp only [size_set]); omega) _, by simp⟩

theorem fault_set0 {w WX WF : World} {vt vf : Value} {E f a : Int} (h : OW w WX vt vf) (hWF : WF = ((WX.setCell ⟨w.heap.size + 1, 0, none⟩ (.int .i64 E)).setCell ⟨w.heap.size + 1, 1, none⟩ (.int .i64 f)).setCell ⟨w.heap.size + 1, 2, none⟩ (.int .i64 a)) :
    WF.cell? ⟨w.heap.size + 1, 0, none⟩ = some (.int .i64 E) ∧ WF.cell? ⟨w.heap.size + 1, 1, none⟩ = some (.int .i64 f) ∧ WF.cell? ⟨w.heap.size + 1, 2, none⟩ = some (.int .i64 a) ∧ Below w.heap.size w WF ∧ ∀ i, i ≠ w.heap.size + 1 → WF.heap[i]? = WX.heap[i]? := by
  subst hWF
  refine ⟨?_, ?_, ?_, ?_, ?_⟩
  · rw [World.cell?_setCell_other _ _ _ _ (by simp), World.cell?_setCell_other _ _ _ _ (by simp)]
    exact World.cell?_setCell_same' _ _ _ (by rw [h.f0]; rfl)
  · rw [World.cell?_setCell_other _ _ _ _ (by simp)]
    exact World.cell?_setCell_same' _ _ _ (by rw [World.cell?_setCell_other _ _ _ _ (by simp), h.f1]; rfl)
  · exact World.cell?_setCell_same' _ _ _ (by rw [World.cell?_setCell_other _ _ _ _ (by simp), World.cell?_setCell_other _ _ _ _ (by simp), h.f2]; rfl)
  · refine ((h.below.setCell ?_ _).setCell ?_ _).setCell ?_ _
    all_goals (show w.heap.size ≤ w.heap.size + 1; omega)
  · intro i hi
    rw [Below.heap_setCell _ _ _ _ hi, Below.heap_setCell _ _ _ _ hi, Below.heap_setCell _ _ _ _ hi]
theorem fault_set {w WX WF : World} {vt vf : Value} {E f a : Int} (h : OW w WX vt vf) (hWF : WF = (((WX.setCell ⟨w.heap.size + 1, 0, none⟩ (.int .i64 E)).setCell ⟨w.heap.size + 1, 1, none⟩ (.int .i64 f)).setCell ⟨w.heap.size + 1, 2, none⟩ (.int .i64 a)).drew) :
    WF.cell? ⟨w.heap.size + 1, 0, none⟩ = some (.int .i64 E) ∧ WF.cell? ⟨w.heap.size + 1, 1, none⟩ = some (.int .i64 f) ∧ WF.cell? ⟨w.heap.size + 1, 2, none⟩ = some (.int .i64 a) ∧ Below w.heap.size w WF := by
  subst hWF
  obtain ⟨h1, h2, h3, h4, _⟩ := fault_set0 h (E := E) (f := f) (a := a) rfl
  exact ⟨h1, h2, h3, h4.drew⟩

set_option maxRecDepth 100000 in
set_option maxHeartbeats 2000000 in
theorem order_many (vt vf : Value) (F : List FR) (w : World) (hF : FuncsIn w vf F) (hn : 32 < F.length) :
    Calls Tryd.prog 12 #[modV vt vf] w (RetOrder F w) := by
  obtain ⟨-, af, cf, hvf, -⟩ := hF.row
  subst hvf
  have hnf := hF.nFuncs
  have Hres : Hid (OrderIs F [] 3 32 0) := .inl ⟨hn, rfl, rfl, rfl, rfl⟩
  clear hF
  generalize F.length = n at *
  go_enter Tryd.func12, Tryd.ntmps12
  go_wp2_with fail
  have e : ∀ j u, (#[Value.int .i64 3, .int .i64 32, .int .i64 0] : Array Value)[j]? = some u → ((w.alloc (.cells #[vt, .slice af n cf] 25)).alloc (.cells #[.int .i64 3, .int .i64 32, .int .i64 0] 35)).cell? ⟨w.heap.size + 1, j, none⟩ = some u := fun j u hu => by
    rw [World.cell?_alloc_at _ _ _ _ (by simp)]; exact hu
  have e0 := e 0 _ rfl
  have e1 := e 1 _ rfl
  have e2 := e 2 _ rfl
  exact bodyPost_ret (v := .tuple #[.slice none 0 0, faultV 3 32 0]) (by simp [results, Tryd.results12, go_sem, e0, e1, e2]) rfl ⟨_, [], 3, 32, 0, rfl, World.ownsRow_nil _ _ _ _, Hres.out, ((Below.refl _ _).alloc (Nat.le_refl _) _).alloc (by (try simp only [World.size_alloc]); (try simp only [size_set]); omega) _⟩

set_option maxRecDepth 100000 in
set_option maxHeartbeats 4000000 in
theorem order_in (vt vf : Value) (F : List FR) (w : World) (hF : FuncsIn w vf F) (hw : WordsIn w) (hn32 : F.length ≤ 32) :
    Calls Tryd.prog 12 #[modV vt vf] w (RetOrder F w) := by
  have hF0 := hF
  obtain ⟨-, af, cf, hvf, -⟩ := hF.row
  subst hvf
  obtain ⟨n, hn⟩ : ∃ n, n = F.length := ⟨_, rfl⟩
  rw [← hn]
  obtain ⟨W1, hW1⟩ : ∃ W1, W1 = (w.alloc (.cells #[vt, .slice af n cf] 25)).alloc (.cells #[.int .i64 0, .int .i64 0, .int .i64 0] 35) := ⟨_, rfl⟩
  have how : OW w W1 vt (.slice af n cf) := by rw [hW1]; exact OW.start w vt _
  have hF1 : FuncsIn W1 (.slice af n cf) F := by have := hF0.later how.below; rwa [← hn] at this
  have H1 := Lib.hid (And.intro how (And.intro hF1 (hw.next how.below)))
  have hsW : W1.heap.size = w.heap.size + 2 := by rw [hW1]; simp
  have hn1 : n ≤ 32 := by omega
  have HF := Lib.hid hF0
  have Hw := Lib.hid hw
  have Hn := Lib.hid hn
  have HW1 := Lib.hid hW1
  have HsW := Lib.hid hsW
  have hmm := @run_makeMap Tryd.prog
  clear hF hF0 hw hn how hF1 hW1 hn32 hsW
  go_enter Tryd.func12, Tryd.ntmps12
  go_wp2_with fail
  rw [← HW1.out]
  refine (leads_any vt _ F _ H1.out.2.1 H1.out.2.2 (by rw [← Hn.out]; exact hn1)).mono ?_
  rintro e w2 ⟨v2, bs, rfl, hrow, hbl, hsets, hb2⟩
  rw [HsW.out] at hrow hsets hb2
  rw [hbl, ← Hn.out] at hrow
  obtain ⟨a2, l2, c2, rfl⟩ := row_form hrow
  have hl2 : l2 = n := by rcases hrow.2 with ⟨h, h2⟩ | ⟨_, _, _, h, _⟩ <;> cases h <;> first | rfl | exact h2.symm
  subst hl2
  have H2 := Lib.hid (And.intro (H1.out.1.later hb2 (Nat.le_refl _)) (And.intro hrow (And.intro hsets hbl)))
  have hs2 : w.heap.size + 2 ≤ w2.heap.size := by have := hb2.size; rw [HsW.out] at this; exact this
  clear hrow hsets hbl hb2 H1 HW1
  go_wp2_with fail
  go_loopw [31] (fun i wr => ∃ f : Nat, f ≤ l2 ∧ i = .int .i64 f ∧ (∀ j : Nat, j < f → ¬ Lead F j j) ∧ Below w2.heap.size w2 wr) (fun i _ => l2 - (intOf i).toNat)
  case atStart => exact ⟨0, Nat.zero_le _, rfl, fun j h => by omega, Below.refl _ _⟩
  case round =>
    obtain ⟨f, hf, rfl, hno, hb⟩ := hrel
    have how := H2.out.1.later hb hs2
    have hrow := ownsRow_below H2.out.2.1 hb (Nat.le_refl _)
    have hsz := hb.size
    by_cases hfn : f < l2
    · obtain ⟨b, hbs⟩ : ∃ b, bs[f]? = some b := ⟨bs[f]'(by rw [H2.out.2.2.2, ← Hn.out]; exact hfn), List.getElem?_eq_getElem _⟩
      obtain ⟨-, hbl, S, hS, hSl⟩ := H2.out.2.2.1 f b hbs
      have hSr := hS.later hb hbl
      have hform : ∃ g, a2 = some ⟨g, 0, none⟩ ∧ g < wr.heap.size := by
        rcases hrow.2 with ⟨h, _⟩ | ⟨g, cap, cur, h, _, hh, _⟩
        · cases h; omega
        · cases h; exact ⟨g, rfl, (Array.getElem?_eq_some_iff.1 hh).1⟩
      obtain ⟨g, rfl, hg⟩ := hform
      have hcf : wr.cell? ⟨g, f, none⟩ = some (mapV b) := by
        rw [World.ownsRow.cellAt hrow f (by omega), List.getElem?_map, hbs]; rfl
      have hfr : f < 1000 := by omega
      have HS := Lib.hid hSr
      have HS2 : Hid (SetAt (wr.alloc (.cells #[] 51)) b S) := hSr.alloc _
      have Hb := Lib.hid hb
      have Ho := Lib.hid (And.intro how (And.intro hrow hno))
      have hbox := how.box
      obtain ⟨m0, m1⟩ := hbox
      have hlt0 : w.heap.size < wr.heap.size := by omega
      clear how hrow hno hb hS hSr
      by_cases hm : Lead F f f
      · have Hm := Lib.hid hm
        have Hd : Hid (decide ((f : Int) ∈ S) = true) := decide_eq_true ((hSl f).2 hm)
        clear hm
        go_wp2_with (at_lookup; refine set_look rfl _ _ rfl b S rfl HS.out (f : Int) rfl (by omega) true Hd.out ?_)
        obtain ⟨x, hx⟩ : ∃ x, F[f]? = some x := ⟨F[f]'(by rw [← Hn.out]; exact hfn), List.getElem?_eq_getElem _⟩
        have hb3 : Below wr.heap.size wr (wr.alloc (.cells #[] 51)) := (Below.refl _ _).alloc (Nat.le_refl _) _
        have hF3 : FuncsIn (wr.alloc (.cells #[] 51)) (.slice af l2 cf) F := by have := HF.out.later (Ho.out.1.below.trans (hb3.mono (by omega))); rwa [← Hn.out] at this
        refine (called_any vt _ F f x _ hF3 hx (Hw.out.next (Ho.out.1.below.trans (hb3.mono (by omega))))).mono ?_
        rintro e w4 ⟨v4, rfl, hv4, hb4⟩
        rw [← callsFn_at hx] at hv4
        obtain ⟨C, hC⟩ : ∃ C, C = callsFn F f := ⟨_, rfl⟩
        have hCl : (callsFn F f).length ≤ 1024 := callsFn_len _ _
        have hCr : ∀ p ∈ C, 0 ≤ p.2 ∧ p.2 < l2 := fun p hp => by rw [hC] at hp; rw [Hn.out]; exact callsFn_range hp
        rw [← hC] at hv4 hCl
        obtain ⟨av, cv, rfl, hav⟩ := pr_form hv4
        obtain ⟨nC, hnC⟩ : ∃ nC, nC = C.length := ⟨_, rfl⟩
        rw [← hnC] at hv4 hCl hav ⊢
        have hb24 : Below wr.heap.size wr w4 := hb3.trans (hb4.mono (by simp))
        have hs4 : wr.heap.size + 1 ≤ w4.heap.size := by have := hb4.size; simp at this; exact this
        have H4 : Hid (OwnPr 50 w4 (wr.heap.size + 1) (.slice av nC cv) C ∧ Below w2.heap.size w2 w4) := ⟨by simpa using hv4, Hb.out.trans (hb24.mono hsz)⟩
        have HnC := Lib.hid hnC
        have HC := Lib.hid hC
        have HCr := Lib.hid hCr
        have Hav := Lib.hid hav
        clear hb3 hF3 hv4 hb4 hb24 hC hCr hav hnC hx HS HS2
        go_wp2_with fail
        go_loopw [49] (fun i wi => ∃ k : Nat, k ≤ nC ∧ i = .int .i64 k ∧ (∀ (j : Nat) p, j < k → C[j]? = some p → ¬ BackAt F f p) ∧ Below w4.heap.size w4 wi) (fun i _ => nC - (intOf i).toNat)
        case atStart => exact ⟨0, Nat.zero_le _, rfl, fun j p h => by omega, Below.refl _ _⟩
        case round =>
          obtain ⟨k, hk, rfl, hnb, hbi⟩ := hrel
          by_cases hkn : k < nC
          · have hb2i : Below w2.heap.size w2 wr := H4.out.2.trans (hbi.mono (by omega))
            have howi := H2.out.1.later hb2i hs2
            have hrowi := ownsRow_below H2.out.2.1 hb2i (Nat.le_refl _)
            obtain ⟨gv, rfl, hgv1, hgv2⟩ := Hav.out (by omega)
            obtain ⟨⟨pa, pb⟩, hp⟩ : ∃ p, C[k]? = some p := ⟨C[k]'(by rw [← HnC.out]; exact hkn), List.getElem?_eq_getElem _⟩
            obtain ⟨-, c0, c1⟩ := OwnPr.cell (ownsRow_below H4.out.1 hbi (Nat.le_refl _)) hp
            simp only at c0 c1
            obtain ⟨hr1, hr2⟩ := HCr.out (pa, pb) (List.mem_of_getElem? hp)
            simp only at hr1 hr2
            obtain ⟨q, rfl⟩ := Int.eq_ofNat_of_zero_le hr1
            have hq2 : q < l2 := by omega
            obtain ⟨b', hbs'⟩ : ∃ b, bs[q]? = some b := ⟨bs[q]'(by rw [H2.out.2.2.2, ← Hn.out]; exact hq2), List.getElem?_eq_getElem _⟩
            obtain ⟨-, hbl', S', hS', hSl'⟩ := H2.out.2.2.1 q b' hbs'
            have hSi : SetAt wr b' S' := hS'.later hb2i hbl'
            have hcq : wr.cell? ⟨g, q, none⟩ = some (mapV b') := by
              rw [World.ownsRow.cellAt hrowi q (by omega), List.getElem?_map, hbs']; rfl
            have HS := Lib.hid (hSi.alloc (.cells #[.int .i64 pa, .int .i64 (q : Int)] 50))
            have hszi := hbi.size
            have hgi : g < wr.heap.size := by omega
            have hlt0' : w.heap.size < wr.heap.size := by omega
            have hlt1' : w.heap.size + 1 < wr.heap.size := by omega
            have hgvi : gv < wr.heap.size := by omega
            have Hnb := Lib.hid hnb
            have Hp := Lib.hid hp
            have Hbi := Lib.hid hbi
            have Hb2i := Lib.hid hb2i
            have hf0 := howi.f0
            have hf1 := howi.f1
            have hf2 := howi.f2
            have hz0 := howi.fz 0
            have hz1 := howi.fz 1
            have hz2 := howi.fz 2
            have Howi := Lib.hid howi
            clear hnb hp hbi hb2i howi hrowi hSi hS' hgv1 hgv2 hmm hbs hbs' m0 m1 hcf hr1
            by_cases hA : Lead F q f
            · have HA := Lib.hid hA
              have Hd : Hid (decide ((f : Int) ∈ S') = true) := decide_eq_true ((hSl' f).2 hA)
              clear hA
              go_wp2_with (at_lookup; refine set_look rfl _ _ rfl b' S' rfl HS.out (f : Int) rfl (by omega) true Hd.out ?_)
              obtain ⟨WX, hWX⟩ : ∃ WX : World, WX = (wr.alloc (.cells #[.int .i64 pa, .int .i64 (q : Int)] 50)).alloc (.cells #[] 51) := ⟨_, rfl⟩
              rw [← hWX]
              have howX : OW w WX vt (.slice af l2 cf) := by
                rw [hWX]; exact Howi.out.later (((Below.refl wr.heap.size wr).alloc (Nat.le_refl _) _).alloc (by simp) _) (by omega)
              have x0 : WX.cell? ⟨wr.heap.size, 0, none⟩ = some (.int .i64 pa) := by
                rw [hWX, World.cell?_alloc_past _ _ _ (by simp), World.cell?_alloc_at _ _ _ _ rfl]; rfl
              have g0 := howX.f0
              have g1 := howX.f1
              have g2 := howX.f2
              have z0 := howX.fz 0
              have z1 := howX.fz 1
              have z2 := howX.fz 2
              have HX := Lib.hid howX
              have Hres : Hid (OrderIs F [] 75 (f : Int) pa) := .inr (.inl ⟨by have := Hn.out; omega, rfl, rfl, f, k, (pa, (q : Int)), rfl, by have := Hn.out; omega, ⟨Hm.out, ⟨(pa, (q : Int)), by rw [← HC.out]; exact Hp.out, .inl HA.out⟩, fun j p hj hjp => Hnb.out j p hj (by rw [HC.out]; exact hjp)⟩, by rw [← HC.out]; exact Hp.out, rfl, fun i hi => Ho.out.2.2 i hi⟩)
              clear hWX howX
              go_region
              go_wp2_with fail
              obtain ⟨WF, hWF⟩ : ∃ WF : World, WF = (((WX.setCell ⟨w.heap.size + 1, 0, none⟩ (.int .i64 75)).setCell ⟨w.heap.size + 1, 1, none⟩ (.int .i64 (f : Int))).setCell ⟨w.heap.size + 1, 2, none⟩ (.int .i64 pa)).drew := ⟨_, rfl⟩
              rw [← hWF]
              obtain ⟨e0, e1, e2, hbF⟩ := fault_set HX.out hWF
              exact bodyPost_ret (v := .tuple #[.slice none 0 0, faultV 75 (f : Int) pa]) (by simp [results, Tryd.results12, go_sem, e0, e1, e2]) rfl ⟨_, [], 75, (f : Int), pa, rfl, World.ownsRow_nil _ _ _ _, Hres.out, hbF⟩
            · have HA := Lib.hid hA
              have Hd : Hid (decide ((f : Int) ∈ S') = false) := decide_eq_false (fun h => hA ((hSl' f).1 h))
              have hqf : ((q : Int) == (f : Int)) = false := by
                refine beq_eq_false_iff_ne.2 (fun e => hA ?_)
                rw [e]; exact Hm.out
              clear hA
              go_wp2_with (at_lookup; refine set_look rfl _ _ rfl b' S' rfl HS.out (f : Int) rfl (by omega) false Hd.out ?_)
              go_roundw
              case rel => exact ⟨k + 1, by omega, by go_num, fun j p hj hjp => by
                by_cases hjk : j = k
                · subst hjk
                  rw [Hp.out] at hjp; cases hjp
                  rintro (h | h)
                  · exact HA.out h
                  · simp only at h
                    have := beq_eq_false_iff_ne.1 hqf
                    exact this h
                · exact Hnb.out j p (by omega) hjp, (Hbi.out.alloc hszi _).alloc (by simp; omega) _⟩
              case measure => simp [intOf]; omega
          · exfalso
            refine no_ring (F := F) (f := f) (fun p hp => ?_) Hm.out
            rw [← HC.out] at hp
            obtain ⟨j, hj⟩ := List.getElem?_of_mem hp
            exact hnb j p (by have := (List.getElem?_eq_some_iff.1 hj).1; rw [← HnC.out] at this; omega) hj
      · have Hm := Lib.hid hm
        have Hd : Hid (decide ((f : Int) ∈ S) = false) := decide_eq_false (fun h => hm ((hSl f).1 h))
        clear hm
        go_wp2_with (at_lookup; refine set_look rfl _ _ rfl b S rfl HS.out (f : Int) rfl (by omega) false Hd.out ?_)
        go_roundw
        case rel => exact ⟨f + 1, by omega, by go_num, fun j hj => by
          by_cases hjf : j = f
          · subst hjf; exact Hm.out
          · exact Ho.out.2.2 j (by omega), Hb.out.alloc hsz _⟩
        case measure => simp [intOf]; omega
    · have ef : f = l2 := by omega
      subst ef
      obtain ⟨W3, rfl⟩ : ∃ W3 : World, W3 = wr := ⟨_, rfl⟩
      have hnr : ∀ x, ¬ Lead F x x := fun x hx => by
        have hr := hx.range
        rw [← Hn.out] at hr
        have := hno x.toNat (by omega)
        rw [show ((x.toNat : Nat) : Int) = x by omega] at this
        exact this hx
      obtain ⟨bw, hbw⟩ : ∃ bw, bw = W3.heap.size := ⟨_, rfl⟩
      have hszb : w.heap.size + 2 ≤ bw := by omega
      have HW3 := Lib.hid (And.intro how (WMap.made W3))
      have Hnr := Lib.hid hnr
      obtain ⟨m0, m1⟩ := how.box
      have Hbw := Lib.hid hbw
      have hlt0 : w.heap.size < W3.heap.size := by omega
      clear how hrow hno hb hsz hnr H2 hbw
      go_wp2_with fail
      rw [← Hbw.out]
      go_loopw [80] (fun i wi => ∃ (k : Nat) (cs : List Nat), k ≤ f ∧ i = .int .i64 k ∧ cs.length = k ∧ WMap wi bw cs [] ∧ WSets F wi bw cs [] ∧ Below bw W3 wi ∧ bw < wi.heap.size) (fun i _ => f - (intOf i).toNat)
      case atStart =>
        exact ⟨0, [], Nat.zero_le _, rfl, rfl, by rw [Hbw.out]; exact HW3.out.2, ⟨fun x c h => by simp at h, fun x c h => by simp at h, fun x y c h => by simp at h⟩, by rw [Hbw.out]; exact (Below.refl _ _).alloc (Nat.le_refl _) _, by rw [Hbw.out]; simp⟩
      case round =>
        obtain ⟨k, cs, hk, rfl, hcl, hwm, hws, hbi, hbs⟩ := hrel
        have howi := HW3.out.1.later hbi hszb
        by_cases hkn : k < f
        · obtain ⟨n0, n1⟩ := howi.box
          have hlt1 : w.heap.size < wr.heap.size := by omega
          have HWM : Hid (WMap (wr.alloc (.map #[] 0)) bw cs []) := hwm.at_block (Below.heap_alloc _ _ _ hbs)
          have HS0 : Hid (SetAt (wr.alloc (.map #[] 0)) wr.heap.size []) := SetAt.made wr
          have Hi := Lib.hid (And.intro hws (And.intro hbi howi))
          have Hcl := Lib.hid hcl
          clear hwm hws hbi howi hcl
          go_wp2_with (at_mapUpdate; refine wm_put rfl _ _ _ rfl bw cs rfl HWM.out wr.heap.size k Hcl.out rfl rfl (by omega) ?_)
          intro w4 hwm4 hg4
          obtain ⟨hws, hbi, howi⟩ := Hi.out
          obtain ⟨c, hce⟩ : ∃ c, c = wr.heap.size := ⟨_, rfl⟩
          rw [← hce] at hwm4
          have hS4 : SetAt w4 c [] := by rw [hce]; exact HS0.out.kept hg4 (by intro e; have := Option.some.inj e; omega)
          have hs4 : c + 1 ≤ w4.heap.size := by have := hg4.size; simp at this; omega
          have hbw4 : Below bw wr w4 := ((Below.refl bw wr).alloc (by omega) _).grown hg4 (by simp; omega) (fun k e => by have := Option.some.inj e; omega)
          have hcs : ∀ (x c' : Nat), cs[x]? = some c' → c' < c := fun x c' hx => by rw [hce]; exact (hws.lo x c' hx).2
          have hws4 : WSets F w4 bw cs [] := hws.kept (fun x c' hx => by
            have h1 := (hws.lo x c' hx)
            rw [hg4.block c' (by simp; omega) (by intro e; have := Option.some.inj e; omega), Below.heap_alloc _ _ _ h1.2]) (by omega)
          have how4 : OW w w4 vt (.slice af f cf) := howi.later hbw4 hszb
          have hF4 : FuncsIn w4 (.slice af f cf) F := by have := HF.out.later how4.below; rwa [← Hn.out] at this
          have hw4 := Hw.out.next how4.below
          obtain ⟨p0, p1⟩ := how4.box
          have H4 := Lib.hid (And.intro hwm4 (And.intro hS4 (And.intro hws4 (And.intro (hbi.trans hbw4) (And.intro hF4 (And.intro hw4 hcs))))))
          have hcb : bw < c := by omega
          have Hce := Lib.hid hce
          clear hwm4 hS4 hws4 hbw4 how4 hF4 hw4 hg4 hws hbi howi hce hcs Hi HWM HS0 n0 n1
          go_wp2_with fail
          refine (of_any vt _ F (k : Int) _ H4.out.2.2.2.2.1 H4.out.2.2.2.2.2.1).mono ?_
          rintro e w5 ⟨v5, rfl, hv5, hb5⟩
          obtain ⟨hwm4, hS4, hws4, hbi4, -, -, hcs⟩ := H4.out
          have hOl := ofFn_len F (k : Int)
          have hOr : ∀ y ∈ ofFn F (k : Int), 0 ≤ y ∧ y < f := fun y hy => by rw [Hn.out]; exact ofFn_range hy
          obtain ⟨O, hO⟩ : ∃ O, O = ofFn F (k : Int) := ⟨_, rfl⟩
          rw [← hO] at hv5 hOl hOr
          have hsl := SliceIn.of_owns hv5
          obtain ⟨-, a5, c5, rfl, -⟩ := hsl
          obtain ⟨nO, hnO⟩ : ∃ nO, nO = O.length := ⟨_, rfl⟩
          rw [← hnO] at hv5 hOl ⊢
          have H5 : Hid (OwnInts w5 w4.heap.size (.slice a5 nO c5) O ∧ WMap w5 bw (cs ++ [c]) [] ∧ SetAt w5 c [] ∧ WSets F w5 bw cs [] ∧ Below bw W3 w5) :=
            ⟨hv5, hwm4.at_block (hb5.block bw (by omega)), hS4.later hb5 hS4.lt, hws4.kept (fun x c' hx => hb5.block c' (hws4.lo x c' hx).2) hb5.size, hbi4.trans (hb5.mono (by omega))⟩
          have HnO := Lib.hid hnO
          have HO := Lib.hid hO
          have HOr := Lib.hid hOr
          have Hcs := Lib.hid hcs
          have hs5 : w4.heap.size ≤ w5.heap.size := hb5.size
          clear hwm4 hS4 hws4 hbi4 hv5 hb5 hnO hO hOr hcs H4 p0 p1
          go_wp2_with fail
          go_loopw [90] (fun i wi => ∃ (j : Nat) (S : List Int), j ≤ nO ∧ i = .int .i64 j ∧ SetAt wi c S ∧ (∀ y, y ∈ S ↔ y ∈ O.take j) ∧ Keep w5.heap.size c w5 wi) (fun i _ => nO - (intOf i).toNat)
          case atStart => exact ⟨0, [], Nat.zero_le _, rfl, H5.out.2.2.1, fun y => by simp, Keep.refl _ _ _⟩
          case round =>
            obtain ⟨j, S, hj, rfl, hS, hSl, hkp⟩ := hrel
            have hwmi : WMap wr bw (cs ++ [c]) [] := H5.out.2.1.at_block (hkp.block bw (by omega) (by omega))
            by_cases hjn : j < nO
            · have hlist := hkp.row H5.out.1 (Nat.le_refl _) (by omega)
              have hlist' : IntsIn wr (.slice a5 nO c5) O := by have := SliceIn.of_owns hlist; rw [← HnO.out] at this; unfold IntsIn; rw [← HnO.out]; exact this
              obtain ⟨b6, o6, rfl, hb6, hc6⟩ := IntsIn.cell hlist' (k := j) (by rw [← HnO.out]; exact hjn)
              have hy : O[j]? = some (O[j]'(by rw [← HnO.out]; exact hjn)) := List.getElem?_eq_getElem _
              have hyd : O.getD j 0 = O[j]'(by rw [← HnO.out]; exact hjn) := by simp [List.getD, hy]
              rw [← hyd] at hy
              have hyr := HOr.out (O.getD j 0) (List.mem_of_getElem? hy)
              have htk := take_snoc hy
              have hSlen : S.length ≤ 1000000000000 := by
                have := nodup_sub S (O.take j) hS.nodup (fun y hy => (hSl y).1 hy)
                simp at this; omega
              have hck : (cs ++ [c])[k]? = some c := by rw [List.getElem?_append_right (by have := Hcl.out; omega), Hcl.out]; simp
              have HS := Lib.hid hS
              have Hi := Lib.hid (And.intro hSl (And.intro hkp htk))
              have HM := Lib.hid hwmi
              have Hck := Lib.hid hck
              have HSlen := Lib.hid hSlen
              clear hS hSl hkp hwmi hlist hlist' hy hyd htk hck hSlen
              generalize O.getD j 0 = y at *
              go_wp2_with (first | (at_lookup; refine wm_look rfl _ _ rfl bw (cs ++ [c]) [] rfl HM.out c k rfl Hck.out (by simp) (by omega) ?_) | (at_mapUpdate; refine set_put rfl _ _ _ rfl c S rfl HS.out y rfl rfl (by omega) HSlen.out ?_))
              intro w7 hS7 hg7
              have hk7 : Keep w5.heap.size c w5 w7 := Hi.out.2.1.grown hg7 Hi.out.2.1.size (fun k e => .inr (Option.some.inj e).symm)
              have hm7 : ∀ z, z ∈ insL S y ↔ z ∈ O.take (j + 1) := fun z => by
                rw [insL_mem, Hi.out.2.2, List.mem_append, Hi.out.1]; simp [or_comm]
              have H7 := Lib.hid (And.intro hS7 (And.intro hm7 hk7))
              clear hS7 hm7 hk7 hg7
              go_wp2_with fail
              go_roundw
              case rel => exact ⟨j + 1, insL S y, by omega, by go_num, H7.out.1, H7.out.2.1, H7.out.2.2⟩
              case measure => simp [intOf]; omega
            · have ej : j = nO := by omega
              subst ej
              have hfin : ∀ y, y ∈ S ↔ y ∈ ofFn F (k : Int) := fun y => by rw [hSl, List.take_of_length_le (Nat.le_of_eq HnO.out.symm), HO.out]
              have hws' : WSets F wr bw (cs ++ [c]) [] := by
                refine WSets.snoc (S := S) (H5.out.2.2.2.1.kept (fun x c' hx => hkp.block c' (H5.out.2.2.2.1.lo x c' hx).2 (by have := Hcs.out x c' hx; omega)) hkp.size) hcb hS (fun y => by rw [Hcl.out]; exact hfin y) Hcs.out
              have hbi' : Below bw W3 wr := H5.out.2.2.2.2.trans (hkp.below (by omega) (by omega))
              have hszr : bw < wr.heap.size := by have := hkp.size; omega
              have Hi := Lib.hid (And.intro hwmi (And.intro hws' hbi'))
              clear hfin hws' hbi' hwmi hS hSl hkp
              go_wp2_with fail
              go_roundw
              case rel => exact ⟨k + 1, cs ++ [c], by omega, by go_num, by simp [Hcl.out], Hi.out.1, Hi.out.2.1, Hi.out.2.2, hszr⟩
              case measure => simp [intOf]; omega
        · have ek : k = f := by omega
          subst ek
          obtain ⟨W6, rfl⟩ : ∃ W6 : World, W6 = wr := ⟨_, rfl⟩
          have H6 := Lib.hid (And.intro hwm (And.intro hws (And.intro hbi (And.intro hcl hbs))))
          clear hwm hws hbi hcl hmm howi
          go_wp2_with fail
          go_loopg [16] (k + 1) (fun g v wi => ∃ l, g = k + 1 - l.length ∧ l.length ≤ k ∧ OwnInts wi W6.heap.size v l ∧ Ord F l ∧ WMap wi bw cs l ∧ WSets F wi bw cs l ∧ Below bw W3 wi ∧ W6.heap.size ≤ wi.heap.size)
          case atStart => exact ⟨[], by simp, by simp, World.ownsRow_nil _ _ _ _, Ord.nil F, H6.out.1, H6.out.2.1, H6.out.2.2.1, Nat.le_refl _⟩
          case round =>
            obtain ⟨l, hg, hlk, hown, hord, hwm, hws, hbi, hsz⟩ := hrel
            obtain ⟨W5, rfl⟩ : ∃ W5 : World, W5 = wr := ⟨_, rfl⟩
            have how := HW3.out.1.later hbi hszb
            have hcsl : cs.length = k := H6.out.2.2.2.1
            have HM := Lib.hid hwm
            have Hi := Lib.hid (And.intro hg (And.intro hlk (And.intro hown (And.intro hord (And.intro hws (And.intro hbi how))))))
            clear hwm hg hlk hown hord hws hbi how
            go_wp2_with (at_len; refine wm_len rfl _ rfl bw cs l rfl HM.out ?_)
            intro N hN hN0
            have HN0 := Lib.hid hN0
            clear hN0
            by_cases hNz : N = 0
            · subst hNz
              have hall := HN0.out.1 rfl
              obtain ⟨hg, hlk, hown, hord, hws, hbi, how⟩ := Hi.out
              have hlen : l.length = k := by
                have := nodup_sub ((List.range k).map Int.ofNat) l (nodup_of_sorted (rangeI_sorted k)) (fun x hx => by
                  obtain ⟨y, hy, rfl⟩ := List.mem_map.1 hx
                  exact hall y (List.mem_range.1 hy))
                simp at this; omega
              have Hres : Hid (OrderIs F l 0 0 0) := .inr (.inr ⟨by have := Hn.out; omega, hord, by rw [← Hn.out]; exact hlen, Hnr.out, rfl, rfl, rfl⟩)
              have Hown := Lib.hid hown
              have g0 := how.f0
              have g1 := how.f1
              have g2 := how.f2
              have z0 := how.fz 0
              have z1 := how.fz 1
              have z2 := how.fz 2
              have How := Lib.hid how
              clear hall hg hlk hown hord hws hbi how hlen
              go_wp2_with fail
              obtain ⟨WF, hWF⟩ : ∃ WF : World, WF = ((W5.setCell ⟨w.heap.size + 1, 0, none⟩ (.int .i64 0)).setCell ⟨w.heap.size + 1, 1, none⟩ (.int .i64 0)).setCell ⟨w.heap.size + 1, 2, none⟩ (.int .i64 0) := ⟨_, rfl⟩
              rw [← hWF]
              obtain ⟨e0, e1, e2, hbF, hkF⟩ := fault_set0 How.out hWF
              have hrow : WF.ownsRow W6.heap.size 3 1 u16 l.length (intVs l) := by
                obtain ⟨h1, h2⟩ := Hown.out
                refine ⟨h1, ?_⟩
                rcases h2 with h2 | ⟨g, cap, cur, hv, hg, hh, r⟩
                · exact .inl h2
                · exact .inr ⟨g, cap, cur, hv, hg, by rw [hkF g (by have := H6.out.2.2.2.2; omega)]; exact hh, r⟩
              clear hWF
              exact bodyPost_ret (v := .tuple #[u16, faultV 0 0 0]) (by simp [results, Tryd.results12, go_sem, e0, e1, e2]) rfl ⟨_, l, 0, 0, 0, rfl, ownsRow_mono hrow (by have := H6.out.2.2.2.2; omega), Hres.out, hbF⟩
            · have hNp : 0 < N := by omega
              have hex : ∃ x, 0 ≤ x ∧ x < (F.length : Int) ∧ ¬ x ∈ l := by
                apply Classical.byContradiction
                intro hc
                exact hNz (HN0.out.2 (fun x hx => Classical.byContradiction fun hxl => hc ⟨x, by omega, by rw [← Hn.out]; omega, hxl⟩))
              have Hex := Lib.hid hex
              clear hex hNz
              go_wp2_with (at_range; refine wm_range rfl _ rfl bw cs l rfl HM.out ?_; intro w7 left cnt hrg hleft hg7 hs7)
              go_frame
              obtain ⟨r, hr⟩ : ∃ r, r = W5.heap.size := ⟨_, rfl⟩
              rw [← hr] at hrg ⊢
              have Hr := Lib.hid hr
              have H7 := Lib.hid (And.intro hrg (And.intro hleft hg7))
              have hs7' : w7.heap.size = r + 1 := by omega
              have Hs7 := Lib.hid hs7'
              clear hrg hleft hg7 hs7 hr hs7'
              go_loopw [17] (fun x wi => ∃ (left : Lit → Bool) (cnt : Nat) (nx : Int), x = .int .i64 nx ∧ WRange wi bw r cs l left cnt ∧ LeastOK F k l left nx ∧ w7.grownBy wi (some r)) (fun _ wi => wi.rangeLeft bw r)
              case atStart => exact ⟨left, cnt, -1, rfl, H7.out.1, LeastOK.start (fun x hx hd => H7.out.2.1 x (by rw [hcsl]; exact hx) hd), World.grownBy.refl _ _⟩
              case round =>
                obtain ⟨left, cnt, nx, rfl, hrg, hle, hgr⟩ := hrel
                have Hrg := Lib.hid hrg
                have Hle := Lib.hid (And.intro hle hgr)
                clear hrg hle hgr
                go_wp2_with (at_next; refine wm_next rfl _ rfl bw r cs l left cnt rfl Hrg.out ?_ ?_)
                · intro hl0
                  obtain ⟨hg, hlk, hown, hord, hws, hbi, how⟩ := Hi.out
                  have hle := Hle.out.1
                  rw [Hn.out] at hle
                  obtain ⟨z, rfl, hz⟩ := hle.done hl0 Hnr.out Hex.out
                  have hzk : z < k := by have := hz.hi; have := Hn.out; omega
                  have HM2 := Lib.hid Hrg.out.map
                  have hs7 := Hs7.out
                  have hr7 := Hr.out
                  have hsr : r + 1 ≤ wr.heap.size := by have := Hle.out.2.size; omega
                  -- what is kept up to here
                  have hk1 : ∀ i, i < r → wr.heap[i]? = W5.heap[i]? := fun i hi => by
                    rw [Hle.out.2.block i (by omega) (by intro e; have := Option.some.inj e; omega), H7.out.2.2.block i (by omega) (by simp)]
                  have hB1 : Below r W5 wr := ⟨Hle.out.2.os.trans H7.out.2.2.os, Hle.out.2.tape.trans H7.out.2.2.tape, Hle.out.2.output.trans H7.out.2.2.output, by omega, hk1⟩
                  have Hz := Lib.hid hz
                  have HB1 := Lib.hid hB1
                  clear hle hz hk1 hB1 hg hlk hown hord hws hbi how hl0
                  go_wp2_with (at_delete; refine wm_del rfl _ _ rfl bw cs l rfl HM2.out (z : Int) rfl (by omega) ?_)
                  intro w9 hwm9 hg9
                  have Hwm9 := Lib.hid hwm9
                  have Hg9 := Lib.hid hg9
                  have hs9 : wr.heap.size ≤ w9.heap.size := hg9.size
                  clear hwm9 hg9
                  go_wp2_with (at_range; refine wm_range rfl _ rfl bw cs (l ++ [(z : Int)]) rfl Hwm9.out ?_; intro w10 left2 cnt2 hrg2 hleft2 hg10 hs10)
                  go_frame
                  obtain ⟨r2, hr2⟩ : ∃ r2, r2 = w9.heap.size := ⟨_, rfl⟩
                  rw [← hr2] at hrg2 ⊢
                  have hr2r : r + 1 ≤ r2 := by omega
                  have hs10' : w10.heap.size = r2 + 1 := by omega
                  have hb6 : bw < W6.heap.size := H6.out.2.2.2.2
                  have hk2 : ∀ i, i < r → i ≠ bw → w10.heap[i]? = W5.heap[i]? := fun i hi hib => by
                    rw [hg10.block i (by omega) (by simp), Hg9.out.block i (by omega) (by intro e; have := Option.some.inj e; omega), HB1.out.block i hi]
                  have hK2 : Keep r bw W5 w10 := ⟨hg10.os.trans (Hg9.out.os.trans HB1.out.os), hg10.tape.trans (Hg9.out.tape.trans HB1.out.tape), hg10.output.trans (Hg9.out.output.trans HB1.out.output), by omega, hk2⟩
                  have hst : Struck F w10 cs l z left2 := by
                    refine Struck.start Hi.out.2.2.2.2.1 (fun x c hc => hk2 c (by have := (Hi.out.2.2.2.2.1.lo x c hc).2; omega) (by have := (Hi.out.2.2.2.2.1.lo x c hc).1; omega)) hleft2 (fun x hx y hy e => ?_)
                    have h1 := Hz.out.free y (by rw [← hx]; exact hy)
                    rw [e] at h1
                    exact Hz.out.new h1
                  have H10 := Lib.hid (And.intro hrg2 (And.intro hst hK2))
                  have Hs10 := Lib.hid hs10'
                  have Hr2 := Lib.hid hr2
                  clear hrg2 hst hK2 hk2 hleft2 hg10 hs10 hs10' hr2
                  go_loopw [21] (fun _ wi => ∃ (left : Lit → Bool) (cnt : Nat), WRange wi bw r2 cs (l ++ [(z : Int)]) left cnt ∧ Struck F wi cs l z left ∧ wi.os = w10.os ∧ wi.tape = w10.tape ∧ wi.output = w10.output ∧ w10.heap.size ≤ wi.heap.size ∧
                    ∀ i, i < r2 → (∀ (x : Nat), cs[x]? ≠ some i) → wi.heap[i]? = w10.heap[i]?) (fun _ wi => wi.rangeLeft bw r2)
                  case atStart => exact ⟨left2, cnt2, H10.out.1, H10.out.2.1, rfl, rfl, rfl, Nat.le_refl _, fun i _ _ => rfl⟩
                  case round =>
                    obtain ⟨left, cnt, hrg, hst, hos, htp, hou, hszi, hkp⟩ := hrel
                    have Hrg2 := Lib.hid hrg
                    have Hst := Lib.hid (And.intro hst (And.intro hos (And.intro htp (And.intro hou (And.intro hszi hkp)))))
                    clear hrg hst hos htp hou hszi hkp
                    go_wp2_with (at_next; refine wm_next rfl _ rfl bw r2 cs (l ++ [(z : Int)]) left cnt rfl Hrg2.out ?_ ?_)
                    · intro hl0
                      obtain ⟨hst, hos, htp, hou, hszi, hkp⟩ := Hst.out
                      obtain ⟨hg, hlk, hown, hord, hws, hbi, how⟩ := Hi.out
                      have hlo6 := H6.out.2.1.lo
                      have hs10 := Hs10.out
                      have hws' : WSets F wr bw cs (l ++ [(z : Int)]) := hst.done hl0 hws (by omega)
                      have hwm' : WMap wr bw cs (l ++ [(z : Int)]) := Hrg2.out.map
                      have hown' : OwnInts wr W6.heap.size u16 l := OwnInts.at_block hown (fun g hg => by
                        have h1 := World.ownsRow.lt hown g hg
                        rw [hkp g (by omega) (fun x hx => by have := (hlo6 x g hx).2; omega), H10.out.2.2.block g (by omega) (by omega)])
                      have hbW : Below bw W5 wr := ⟨hos.trans H10.out.2.2.os, htp.trans H10.out.2.2.tape, hou.trans H10.out.2.2.output, by omega, fun i hi => by
                        rw [hkp i (by omega) (fun x hx => by have := (hlo6 x i hx).1; omega), H10.out.2.2.block i (by omega) (by omega)]⟩
                      have hord' : Ord F (l ++ [(z : Int)]) := hord.snoc Hz.out
                      have hlen' : (l ++ [(z : Int)]).length ≤ k := set_small hord'.nodup (fun x hx => by have := hord'.range hx; rw [← Hn.out] at this; exact this)
                      have hszw : W6.heap.size ≤ wr.heap.size := by omega
                      have hll : l.length ≤ 1000000000000 := by omega
                      have HF7 := Lib.hid (And.intro hws' (And.intro hwm' (And.intro hown' (And.intro (hbi.trans hbW) (And.intro hord' (And.intro hlen' hg))))))
                      clear hst hos htp hou hszi hkp hg hlk hown hord hws hbi how hlo6 hs10 hws' hwm' hown' hbW hord' hlen' hl0
                      go_wp2_with (at_builtin; refine append_int rfl _ _ rfl W6.heap.size _ l rfl HF7.out.2.2.1 (z : Int) rfl hll hszw ?_)
                      intro v12 w12 ho12 hg12 hf12 hb12
                      obtain ⟨hws', hwm', hown', hbi', hord', hlen', hg⟩ := HF7.out
                      have hbS := hb12 _ _ (Below.refl W6.heap.size wr) (Nat.le_refl _)
                      have hws2 : WSets F w12 bw cs (l ++ [(z : Int)]) := hws'.kept (fun x c hx => hbS.block c (H6.out.2.1.lo x c hx).2) hbS.size
                      have hwm2 : WMap w12 bw cs (l ++ [(z : Int)]) := hwm'.at_block (hbS.block bw hb6)
                      have hb2 : Below bw W3 w12 := hbi'.trans (hbS.mono (by omega))
                      have hs12 : W6.heap.size ≤ w12.heap.size := by have := hbS.size; omega
                      have HE := Lib.hid (And.intro ho12 (And.intro hws2 (And.intro hwm2 (And.intro hb2 (And.intro hord' (And.intro hlen' hg))))))
                      clear ho12 hg12 hf12 hb12 hws' hwm' hown' hbi' hord' hlen' hg hbS hws2 hwm2 hb2
                      go_wp2_with fail
                      go_roundg (k + 1 - (l ++ [(z : Int)]).length)
                      case measure => have h1 := HE.out.2.2.2.2.2.2; have h2 := HE.out.2.2.2.2.2.1; simp at h2 ⊢; omega
                      case rel => exact ⟨_, rfl, HE.out.2.2.2.2.2.1, HE.out.1, HE.out.2.2.2.2.1, HE.out.2.2.1, HE.out.2.1, HE.out.2.2.2.1, hs12⟩
                    · intro x c w11 cnt' hc hd1 hd2 hlx hrg11 hlt hg11 hs11 hen
                      obtain ⟨hst, hos, htp, hou, hszi, hkp⟩ := Hst.out
                      have hlo6 := H6.out.2.1.lo x c hc
                      have hs10 := Hs10.out
                      obtain ⟨S, hS, hSl⟩ := hst.set x c hc hd1
                      have hcr : c < r2 := by omega
                      have hS11 := hS.at_block (hg11.block c (by omega) (by intro e; have := Option.some.inj e; omega))
                      have HS := Lib.hid hS11
                      have HA := Lib.hid (And.intro hS (And.intro hSl (And.intro hrg11 (And.intro hlt (And.intro hg11 hc)))))
                      clear hst hos htp hou hkp hS hSl hrg11 hlt hc hd1 hd2 hlx hS11
                      go_wp2_with (at_delete; refine set_del rfl _ _ rfl c S rfl HS.out (z : Int) rfl (by omega) ?_; intro w12 hS12 hg12; go_frame)
                      obtain ⟨hst, hos, htp, hou, hszi, hkp⟩ := Hst.out
                      obtain ⟨hS, hSl, hrg11, hlt, hg11, hc⟩ := HA.out
                      have hrg12 := hrg11.kept hg12 (by intro e; have := Option.some.inj e; omega) (by intro e; have := Option.some.inj e; omega)
                      have hstep : Struck F w12 cs l z (fun y => left y && !y.sameKey (.int .i64 (x : Int))) := by
                        refine hst.next Hi.out.2.2.2.2.1.inj hc (fun y c' hc' hne => ?_) hS hSl hS12
                        have h2 := (H6.out.2.1.lo y c' hc').2
                        rw [hg12.block c' (by omega) (by intro e; exact hne (Option.some.inj e)), hg11.block c' (by omega) (by intro e; have := Option.some.inj e; omega)]
                      have hk12 : ∀ i, i < r2 → (∀ (x : Nat), cs[x]? ≠ some i) → w12.heap[i]? = w10.heap[i]? := fun i hi hn => by
                        rw [hg12.block i (by omega) (by intro e; have e2 := Option.some.inj e; exact hn x (by rw [e2]; exact hc)), hg11.block i (by omega) (by intro e; have := Option.some.inj e; omega), hkp i hi hn]
                      have H12 := Lib.hid (And.intro hrg12 (And.intro hstep (And.intro (hg12.os.trans (hg11.os.trans hos)) (And.intro (hg12.tape.trans (hg11.tape.trans htp)) (And.intro (hg12.output.trans (hg11.output.trans hou)) hk12)))))
                      have hs12 : w10.heap.size ≤ w12.heap.size := by have := hg12.size; omega
                      clear hrg12 hstep hk12 hst hos htp hou hkp hS hSl hrg11 hg11 hg12 hc
                      go_roundw
                      case rel => exact ⟨_, cnt', H12.out.1, H12.out.2.1, H12.out.2.2.1, H12.out.2.2.2.1, H12.out.2.2.2.2.1, hs12, H12.out.2.2.2.2.2⟩
                      case measure => rw [H12.out.1.left_eq, Hrg2.out.left_eq]; exact hlt
                · intro x c w8 cnt' hc hd hlx hrg8 hlt hg8 hs8 hen
                  obtain ⟨hg, hlk, hown, hord, hws, hbi, how⟩ := Hi.out
                  obtain ⟨S, hS, hSl⟩ := hws.set x c hc hd
                  have hcr : c < r := by have := (hws.lo x c hc).2; have := Hr.out; omega
                  have hs7 := Hs7.out
                  have hcw : w8.heap[c]? = W5.heap[c]? := by
                    rw [hg8.block c (by have := Hle.out.2.size; omega) (by intro e; have := Option.some.inj e; omega), Hle.out.2.block c (by omega) (by intro e; have := Option.some.inj e; omega), H7.out.2.2.block c (by have := Hr.out; omega) (by simp)]
                  have hS8 := hS.at_block hcw
                  have hxk : x < k := by have := (List.getElem?_eq_some_iff.1 hc).1; omega
                  have HS := Lib.hid hS8
                  have hgr8 : w7.grownBy w8 (some r) := Hle.out.2.andThen hg8 (fun j hj => .inr hj)
                  have H8 := Lib.hid (And.intro hrg8 (And.intro hlt hgr8))
                  have Hd := Lib.hid hd
                  clear hg hlk hown hord hws hbi how hS hcw hS8 hrg8 hlt hg8 hgr8 hc hd hs7
                  by_cases hfree : ∀ g ∈ ofFn F (x : Int), g ∈ l
                  · have hS0 : S.length = 0 := by
                      rw [List.length_eq_zero_iff, List.eq_nil_iff_forall_not_mem]
                      intro y hy
                      have := (hSl y).1 hy
                      exact this.2 (hfree y this.1)
                    have HS0 := Lib.hid hS0
                    have Hfree := Lib.hid hfree
                    have hA : nx < 0 ∨ (¬ nx < 0 ∧ (x : Int) < nx) ∨ (¬ nx < 0 ∧ ¬ (x : Int) < nx) := by omega
                    clear hS0 hfree hSl
                    rcases hA with h1 | ⟨h1, h2⟩ | ⟨h1, h2⟩
                    · go_wp2_with (at_len; refine set_len rfl _ rfl c S rfl HS.out 0 HS0.out ?_)
                      go_roundw
                      case rel => exact ⟨_, cnt', (x : Int), rfl, H8.out.1, Hle.out.1.take hxk Hd.out Hfree.out (.inl h1), H8.out.2.2⟩
                      case measure => rw [H8.out.1.left_eq, Hrg.out.left_eq]; exact H8.out.2.1
                    · go_wp2_with (at_len; refine set_len rfl _ rfl c S rfl HS.out 0 HS0.out ?_)
                      go_roundw
                      case rel => exact ⟨_, cnt', (x : Int), rfl, H8.out.1, Hle.out.1.take hxk Hd.out Hfree.out (.inr h2), H8.out.2.2⟩
                      case measure => rw [H8.out.1.left_eq, Hrg.out.left_eq]; exact H8.out.2.1
                    · go_wp2_with (at_len; refine set_len rfl _ rfl c S rfl HS.out 0 HS0.out ?_)
                      go_roundw
                      case rel => exact ⟨_, cnt', nx, rfl, H8.out.1, Hle.out.1.leave h1 h2, H8.out.2.2⟩
                      case measure => rw [H8.out.1.left_eq, Hrg.out.left_eq]; exact H8.out.2.1
                  · have hblk : ∃ g ∈ ofFn F (x : Int), ¬ g ∈ l := Classical.byContradiction fun hc => hfree fun g hg => Classical.byContradiction fun hgl => hc ⟨g, hg, hgl⟩
                    obtain ⟨nS, hnS⟩ : ∃ nS, S.length = nS := ⟨_, rfl⟩
                    have hnz : ((nS : Int) == 0) = false := by
                      refine beq_eq_false_iff_ne.2 (fun e => ?_)
                      obtain ⟨g, hg, hgl⟩ := hblk
                      have := List.length_pos_of_mem ((hSl g).2 ⟨hg, hgl⟩)
                      omega
                    have HnS := Lib.hid hnS
                    have Hblk := Lib.hid hblk
                    clear hfree hSl hnS hblk
                    go_wp2_with (at_len; refine set_len rfl _ rfl c S rfl HS.out nS HnS.out ?_)
                    go_roundw
                    case rel => exact ⟨_, cnt', nx, rfl, H8.out.1, Hle.out.1.blocked Hblk.out, H8.out.2.2⟩
                    case measure => rw [H8.out.1.left_eq, Hrg.out.left_eq]; exact H8.out.2.1
end Go.Proofs.YtggkeodoenhmoaaDoor
