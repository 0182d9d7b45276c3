/- LoopsNest: the rows of the members, in memory; what stands behind loops.Find. -/
import Derived.Test.YtapjdndcnenadaaDoorBase
import Derived.BigQuiet
import Derived.Test.YtapjdndcnenadaaDoorFindPlain
import Derived.Test.YtapjdndcnenadaaDoorOpen
/- A region that draws its order, whose operations read and whose calls make memory of their own: one walk in the text's order, over the class of the worlds that keep all below a block. -/
namespace Go.Proofs.YtapjdndcnenadaaDoor
open Go.RowKit

/-- A world that keeps all below B. -/
structure After (B : Nat) (W : World) where
  w : World
  h : Below B W w
instance (B : Nat) (W : World) : Nonempty (After B W) := ⟨⟨W, Below.refl _ _⟩⟩
theorem After.cell {B : Nat} {W : World} {p : Addr} {v : Value} (h : W.cell? p = some v) (hp : p.block < B) (d : After B W) : d.w.cell? p = some v := (d.h.cell hp).trans h
theorem wp_region_after {P : Program} {id : Nat} {Q : Exit → Act → World → Prop} {a : Act} {w : World} {l : List Oper} (B : Nat) (hm : P.follows .mixedOrders = true) (hB : Region.lexB .any l.toArray = true)
    (h : wpQuiet P l.toArray (fun w' => ∃ d : After B w, w' = d.w) (fun a' => ∀ w', (∃ d : After B w, w' = d.w) → Q .normal a' w') l a) : (Code.region id l.toArray true).wp P Q a w :=
  wp_region_quiet (C := fun w' => ∃ d : After B w, w' = d.w) hm hB ⟨⟨w.drew, (Below.refl _ _).drew⟩, rfl⟩ (by simpa using h)
end Go.Proofs.YtapjdndcnenadaaDoor

/- Loops lie within one another, and are entered at their heads alone: the plain law. -/
namespace Go.Proofs.YtapjdndcnenadaaDoor
open Go.RowKit

theorem edge_nat {code : List Ins} {u v : Int} (h : (u, v) ∈ edgesL code) : ∃ a b : Nat, u = a ∧ v = b ∧ Rch code (-1) a ∧ Rch code (-1) b ∧ (b : Int) ∈ nextL code (a : Int) ∧ hasB code = true := by
  obtain ⟨h1, _, h3, _, h5, h6, h7, h8⟩ := edgesL_mem h
  simp only at h1 h3 h5 h7 h8
  refine ⟨u.toNat, v.toNat, by omega, by omega, h7, h8, ?_, h6⟩
  rw [show ((u.toNat : Nat) : Int) = u by omega, show ((v.toNat : Nat) : Int) = v by omega]
  exact h5
theorem mem_pred {code : List Ins} {h x u : Int} (hm : MemP code h x) (hne : x ≠ h) (he : (u, x) ∈ edgesL code) : MemP code h u := by
  rcases hm with rfl | hm
  · exact absurd rfl hne
  · exact .inr (.step hm (by simpa using hne) (toI_mem.2 he))
theorem head_nat {code : List Ins} {h : Int} (hh : h ∈ headsL code) : ∃ a : Nat, h = a ∧ Rch code (-1) a := by
  obtain ⟨u, hu⟩ := List.exists_mem_of_ne_nil _ (headsL_mem.1 hh)
  obtain ⟨_, b, _, hb, _, hr, _⟩ := edge_nat (backs_sub (toI_mem.1 hu))
  exact ⟨b, hb, hr⟩
/-- The head dominates all of its loop. -/
theorem head_dom {code : List Ins} {a : Nat} {x : Int} (hh : (a : Int) ∈ headsL code) (hm : MemP code a x) : ∃ c : Nat, x = c ∧ Dom code a c := by
  rcases hm with rfl | hm
  · obtain ⟨b, hb, hr⟩ := head_nat hh
    exact ⟨a, rfl, .refl (by rw [show a = b by omega]; exact hr)⟩
  · induction hm with
    | @base x hb =>
      have h1 := toI_mem.1 hb
      obtain ⟨c, b, rfl, hb', hr, _⟩ := edge_nat (backs_sub h1)
      have h2 := (List.mem_filter.1 h1).2
      exact ⟨c, rfl, isBack_iff.1 h2⟩
    | @step x y hy hn hx ih =>
      obtain ⟨d, rfl, hd⟩ := ih
      obtain ⟨c, b, rfl, hb', hr, _, hnx, _⟩ := edge_nat (toI_mem.1 hx)
      obtain rfl : d = b := by omega
      exact ⟨c, rfl, hd.pred (by simp at hn; omega) hr hnx⟩
/-- A loop whose head lies in another one lies in it. -/
theorem nest_sub {code : List Ins} {hi hk x : Int} (Hi : hi ∈ headsL code) (Hk : hk ∈ headsL code) (hki : MemP code hk hi) (hne : hi ≠ hk) (hx : MemP code hi x) : MemP code hk x := by
  obtain ⟨a, rfl, ra⟩ := head_nat Hi
  obtain ⟨b, rfl, rb⟩ := head_nat Hk
  rcases hx with rfl | hx
  · exact hki
  · induction hx with
    | base hb => exact mem_pred hki hne (backs_sub (toI_mem.1 hb))
    | @step x y hy hn hx ih =>
      refine mem_pred ih ?_ (toI_mem.1 hx)
      rintro rfl
      obtain ⟨c, hc, h1⟩ := head_dom Hi (.inr hy)
      obtain ⟨d, hd, h2⟩ := head_dom Hk hki
      obtain rfl : b = c := by omega
      obtain rfl : a = d := by omega
      exact hne (by rw [h1.antisymm h2])
/-- A way from a on that does not come to g. -/
inductive Ava (code : List Ins) (a g : Nat) : Nat → Prop
  | start : Ava code a g a
  | step {u v : Nat} : Ava code a g u → (v : Int) ∈ nextL code (u : Int) → v ≠ g → Ava code a g v
theorem Ava.rch {code : List Ins} {a g v : Nat} (h : Ava code a g v) (ha : Rch code (-1) a) : Rch code (-1) v := by
  induction h with
  | start => exact ha
  | step _ h _ ih => exact .step ih h (by omega)
theorem ava_or {code : List Ins} {a g v : Nat} (hd : ¬ Dom code a g) (ha : Rch code (-1) a) (hg : Rch code (-1) g) (h : Rch code (-1) v) : Rch code (a : Int) v ∨ Ava code a g v := by
  have hag : Rch code (a : Int) g := Classical.byContradiction fun hn => hd ⟨ha, hg, .inr hn⟩
  induction h with
  | start =>
    by_cases e : a = 0
    · subst e; exact .inr .start
    · exact .inl (.start (by omega))
  | @step u v _ hv _ ih =>
    rcases ih with ih | ih
    · by_cases e : v = a
      · subst e; exact .inr .start
      · exact .inl (.step ih hv (by omega))
    · by_cases e : v = g
      · subst e; exact .inl hag
      · exact .inr (.step ih hv e)
theorem ava_mem {code : List Ins} {a b v : Nat} (hb : hasB code = true) (ha : Rch code (-1) a) (h : Ava code a b v) (hm : MemP code b v) : MemP code b a := by
  induction h with
  | start => exact hm
  | @step u v hu hv hne ih => exact ih (mem_pred hm (by omega) (edgesL_of hb (hu.rch ha) hv))
theorem head_hasB {code : List Ins} {h : Int} (hh : h ∈ headsL code) : hasB code = true := by
  obtain ⟨u, hu⟩ := List.exists_mem_of_ne_nil _ (headsL_mem.1 hh)
  obtain ⟨_, _, _, _, _, _, _, h⟩ := edge_nat (backs_sub (toI_mem.1 hu))
  exact h
theorem nest_up {code : List Ins} {a b : Nat} {x : Int} (Ha : (a : Int) ∈ headsL code) (hne : a ≠ b) (h1 : MemP code a x) (h2 : MemP code b x) (hd : Dom code b a) : MemP code b a := by
  obtain ⟨c, rfl, d1⟩ := head_dom Ha h1
  rcases d1.2.2 with e | e
  · subst e; exact h2
  · have hn : ¬ Dom code a b := fun h => hne (h.antisymm hd)
    rcases ava_or hn d1.1 hd.1 d1.2.1 with h | h
    · exact absurd h e
    · exact ava_mem (head_hasB Ha) d1.1 h h2
/-- Two loops with a member together: one has the other's head. -/
theorem nest_or {code : List Ins} {hi hk x : Int} (Hi : hi ∈ headsL code) (Hk : hk ∈ headsL code) (hne : hi ≠ hk) (h1 : MemP code hi x) (h2 : MemP code hk x) : MemP code hk hi ∨ MemP code hi hk := by
  obtain ⟨a, rfl, ra⟩ := head_nat Hi
  obtain ⟨b, rfl, rb⟩ := head_nat Hk
  obtain ⟨c, rfl, d1⟩ := head_dom Hi h1
  obtain ⟨d, hd, d2⟩ := head_dom Hk h2
  obtain rfl : c = d := by omega
  rcases d1.total d2 with h | h
  · exact .inr (nest_up Hk (by omega) h2 h1 h)
  · exact .inl (nest_up Hi (by omega) h1 h2 h)
/-- Neither lies in the other one's head's loop, both ways. -/
theorem nest_anti {code : List Ins} {hi hk : Int} (Hi : hi ∈ headsL code) (Hk : hk ∈ headsL code) (h1 : MemP code hi hk) (h2 : MemP code hk hi) : hi = hk := by
  obtain ⟨a, rfl, ra⟩ := head_nat Hi
  obtain ⟨b, rfl, rb⟩ := head_nat Hk
  obtain ⟨c, hc, d1⟩ := head_dom Hi h1
  obtain ⟨d, hd, d2⟩ := head_dom Hk h2
  obtain rfl : b = c := by omega
  obtain rfl : a = d := by omega
  rw [d1.antisymm d2]

/-! ### the same of the lists of members -/
theorem memL_iff {code : List Ins} {h x : Int} (hh : h ∈ headsL code) : x ∈ memL code h ↔ MemP code h x := memL_mem (headsL_in hh)
theorem memL_head {code : List Ins} {h : Int} (hh : h ∈ headsL code) : h ∈ memL code h := (memL_iff hh).2 (.inl rfl)
theorem nest_check {code : List Ins} {hi hk x : Int} (Hi : hi ∈ headsL code) (Hk : hk ∈ headsL code) (hne : hi ≠ hk) (hx : x ∈ memL code hi) :
    decide (x ∈ memL code hk) = decide (hi ∈ memL code hk) ∨ (x ∈ memL code hk ∧ hk ∈ memL code hi) := by
  by_cases h1 : hi ∈ memL code hk
  · left
    have h2 : x ∈ memL code hk := (memL_iff Hk).2 (nest_sub Hi Hk ((memL_iff Hk).1 h1) hne ((memL_iff Hi).1 hx))
    simp [h1, h2]
  · by_cases h2 : x ∈ memL code hk
    · right
      refine ⟨h2, (memL_iff Hi).2 ?_⟩
      rcases nest_or Hi Hk hne ((memL_iff Hi).1 hx) ((memL_iff Hk).1 h2) with h | h
      · exact absurd ((memL_iff Hk).2 h) h1
      · exact h
    · left; simp [h1, h2]
theorem nest_enter {code : List Ins} {h u v : Int} (Hh : h ∈ headsL code) (he : (u, v) ∈ edgesL code) (hv : v ∈ memL code h) (hne : v ≠ h) : u ∈ memL code h :=
  (memL_iff Hh).2 (mem_pred ((memL_iff Hh).1 hv) hne he)
theorem memL_sub_len {code : List Ins} {a b : Int} (h : ∀ x, x ∈ memL code a → x ∈ memL code b) {y : Int} (hy : y ∈ memL code b) (hn : ¬ y ∈ memL code a) : (memL code a).length < (memL code b).length := by
  have nd : ∀ h, (memL code h).Nodup := fun h => (memL_sorted code h).imp (fun h => by omega)
  have h1 : (y :: memL code a).Nodup := List.nodup_cons.2 ⟨hn, nd a⟩
  have h2 : ∀ x ∈ y :: memL code a, x ∈ memL code b := by
    intro x hx
    rcases List.mem_cons.1 hx with rfl | hx
    · exact hy
    · exact h x hx
  have := nodup_subL _ _ h1 h2
  simp at this
  omega

/-! ### who lies next around -/
/-- p is the best of the first k. -/
def BestOK (ds : List LD) (i k : Nat) (p : Int) : Prop :=
  (p = -1 ∧ ∀ j, j < k → withinD ds i j = false) ∨ ∃ q : Nat, p = q ∧ q < k ∧ withinD ds i q = true ∧ ∀ j, j < k → withinD ds i j = true → (nthD ds q).2.1.length ≤ (nthD ds j).2.1.length
theorem inP_best (ds : List LD) (ps : List Int) (i : Nat) (hi : i < ps.length) (h0 : ps.getD i 0 = -1) : ∀ k, BestOK ds i k ((inP ds ps i k).getD i 0) ∧ ∀ j, j ≠ i → (inP ds ps i k)[j]? = ps[j]?
  | 0 => ⟨.inl ⟨h0, fun j h => by omega⟩, fun _ _ => rfl⟩
  | k + 1 => by
    obtain ⟨ih, io⟩ := inP_best ds ps i hi h0 k
    have hl := inP_len ds ps i k
    rw [inP]
    unfold stepP
    obtain ⟨p, hp⟩ : ∃ p, p = (inP ds ps i k).getD i 0 := ⟨_, rfl⟩
    rw [← hp] at ih ⊢
    split
    · rename_i hc
      simp only [Bool.and_eq_true, Bool.or_eq_true, decide_eq_true_eq] at hc
      obtain ⟨hw, hc⟩ := hc
      refine ⟨?_, fun j hj => by rw [List.getElem?_set_ne (by omega)]; exact io j hj⟩
      have e : ((inP ds ps i k).set i (k : Int)).getD i 0 = (k : Int) := by rw [getD_set _ _ _ _ _ (by omega), if_pos rfl]
      rw [e]
      refine .inr ⟨k, rfl, by omega, hw, fun j hj hjw => ?_⟩
      by_cases ejk : j = k
      · subst ejk; exact Nat.le_refl _
      · rcases ih with ⟨_, hn⟩ | ⟨q, hq, hqk, hqw, hmin⟩
        · rw [hn j (by omega)] at hjw; cases hjw
        · rcases hc with hc | hc
          · omega
          · rw [hq] at hc
            have := hmin j (by omega) hjw
            simp at hc
            omega
    · rename_i hc
      refine ⟨?_, io⟩
      rw [← hp]
      simp only [Bool.and_eq_true, Bool.or_eq_true, decide_eq_true_eq, not_and, not_or] at hc
      rcases ih with ⟨hm, hn⟩ | ⟨q, hq, hqk, hqw, hmin⟩
      · refine .inl ⟨hm, fun j hj => ?_⟩
        by_cases ejk : j = k
        · subst ejk
          refine Bool.eq_false_iff.2 fun hw => ?_
          have := (hc hw).1
          omega
        · exact hn j (by omega)
      · refine .inr ⟨q, hq, by omega, hqw, fun j hj hjw => ?_⟩
        by_cases ejk : j = k
        · subst ejk
          have := (hc hjw).2
          rw [hq] at this
          simp at this
          omega
        · exact hmin j (by omega) hjw
theorem outP_best (ds : List LD) (m : Nat) : ∀ i, i ≤ m → ∀ j, j < m → ((outP ds m i).getD j 0 = -1 ∧ i ≤ j) ∨ (j < i ∧ BestOK ds j m ((outP ds m i).getD j 0))
  | 0, _, j, hj => .inl ⟨by simp [outP, List.getD, hj], Nat.zero_le _⟩
  | i + 1, hi, j, hj => by
    have ih := outP_best ds m i (by omega)
    have hl := outP_len ds m i
    have h0 : (outP ds m i).getD i 0 = -1 := by
      rcases ih i (by omega) with h | h
      · exact h.1
      · omega
    obtain ⟨h1, h2⟩ := inP_best ds (outP ds m i) i (by omega) h0 m
    rw [outP]
    by_cases e : j = i
    · subst e; exact .inr ⟨by omega, h1⟩
    · have e2 : (inP ds (outP ds m i) i m).getD j 0 = (outP ds m i).getD j 0 := by
        rw [List.getD_eq_getElem?_getD, List.getD_eq_getElem?_getD, h2 j e]
      rw [e2]
      rcases ih j hj with h | h
      · exact .inl ⟨h.1, by omega⟩
      · exact .inr ⟨by omega, h.2⟩
theorem parents_best {ds : List LD} {m i : Nat} (hi : i < m) : BestOK ds i m ((outP ds m m).getD i 0) := by
  rcases outP_best ds m m (Nat.le_refl _) i hi with h | h
  · omega
  · exact h.2

/-- How many others have the head of the i-th loop, of the first k. -/
def aroundOf (ds : List LD) (i k : Nat) : Nat := (List.range k).countP fun j => withinD ds i j
theorem around_succ (ds : List LD) (i k : Nat) : aroundOf ds i (k + 1) = aroundOf ds i k + if withinD ds i k then 1 else 0 := by
  unfold aroundOf
  rw [List.range_succ, List.countP_append]
  simp [List.countP_cons]
theorem around_zero {ds : List LD} {i m : Nat} : aroundOf ds i m = 0 ↔ ∀ j, j < m → withinD ds i j = false := by
  unfold aroundOf
  rw [List.countP_eq_zero]
  constructor
  · intro h j hj
    exact Bool.eq_false_iff.2 (h j (List.mem_range.2 hj))
  · intro h j hj
    rw [h j (List.mem_range.1 hj)]; simp
theorem around_le (ds : List LD) (i k : Nat) : aroundOf ds i k ≤ k := by
  unfold aroundOf
  have := List.countP_le_length (p := fun j => withinD ds i j) (l := List.range k)
  simpa using this

/-- The list of loops of a function that are told. -/
structure ToldL (code : List Ins) (l : List LP) : Prop where
  d : l.map LP.d = (headsL code).map (loopD code)
  par : l.map LP.parent = outP ((headsL code).map (loopD code)) (headsL code).length (headsL code).length
theorem ToldL.len {code : List Ins} {l : List LP} (h : ToldL code l) : l.length = (headsL code).length := by
  have := congrArg List.length h.d
  simpa using this
/-- The i-th loop. -/
theorem ToldL.at' {code : List Ins} {l : List LP} (h : ToldL code l) {i : Nat} {x : LP} (hx : l[i]? = some x) : (headsL code)[i]? = some x.head ∧ x.mem = memL code x.head ∧ x.backs = toI (backsE code) x.head ∧ x.parent = (outP ((headsL code).map (loopD code)) (headsL code).length (headsL code).length).getD i 0 := by
  have h1 := congrArg (fun t => t[i]?) h.d
  have h2 := congrArg (fun t => t[i]?) h.par
  simp only [List.getElem?_map, hx, Option.map_some] at h1 h2
  cases he : (headsL code)[i]? with
  | none => rw [he] at h1; cases h1
  | some y =>
    rw [he] at h1
    simp [LP.d, loopD] at h1
    obtain ⟨rfl, h3, h4⟩ := h1
    refine ⟨rfl, h3, h4, ?_⟩
    rw [List.getD_eq_getElem?_getD, ← h2]; rfl
theorem ToldL.nth {code : List Ins} {i : Nat} {h : Int} (hh : (headsL code)[i]? = some h) : nthD ((headsL code).map (loopD code)) i = (h, memL code h, toI (backsE code) h) := by
  unfold nthD
  rw [List.getD_eq_getElem?_getD, List.getElem?_map, hh]; rfl
theorem heads_ne {code : List Ins} {i k : Nat} {a b : Int} (ha : (headsL code)[i]? = some a) (hb : (headsL code)[k]? = some b) (h : i ≠ k) : a ≠ b := by
  obtain ⟨h1, e1⟩ := List.getElem?_eq_some_iff.1 ha
  obtain ⟨h2, e2⟩ := List.getElem?_eq_some_iff.1 hb
  have hs := List.pairwise_iff_getElem.1 (headsL_sorted code)
  rcases Nat.lt_or_gt_of_ne h with h | h
  · have := hs i k h1 h2 h; omega
  · have := hs k i h2 h1 h; omega
theorem withinD_iff {code : List Ins} {i k : Nat} {a b : Int} (ha : (headsL code)[i]? = some a) (hb : (headsL code)[k]? = some b) : withinD ((headsL code).map (loopD code)) i k = true ↔ i ≠ k ∧ a ∈ memL code b := by
  unfold withinD
  rw [ToldL.nth ha, ToldL.nth hb]
  simp
theorem depth_range {l : List LP} (a : Int) : depthOf l a = (List.range l.length).countP fun k => (match l[k]? with | some x => x.mem.contains a | none => false) := by
  unfold depthOf
  induction l with
  | nil => rfl
  | cons x l ih =>
    rw [List.countP_cons, ih, List.length_cons, List.range_succ_eq_map, List.countP_cons, List.countP_map]
    congr 1
/-- The one around lies in as many as have its member's head. -/
theorem depth_parent {code : List Ins} {l : List LP} (h : ToldL code l) {i : Nat} {x : LP} (hx : l[i]? = some x) (ha : 0 < aroundOf ((headsL code).map (loopD code)) i (headsL code).length) :
    ∃ (q : Nat) (y : LP), x.parent = q ∧ q ≠ i ∧ l[q]? = some y ∧ x.head ∈ y.mem ∧ depthOf l y.head = aroundOf ((headsL code).map (loopD code)) i (headsL code).length := by
  obtain ⟨h1, h2, h3, h4⟩ := h.at' hx
  have hi : i < (headsL code).length := (List.getElem?_eq_some_iff.1 h1).1
  have hb := parents_best (ds := (headsL code).map (loopD code)) hi
  rw [← h4] at hb
  rcases hb with ⟨_, hn⟩ | ⟨q, hq, hqm, hqw, hmin⟩
  · rw [around_zero.2 hn] at ha; omega
  · obtain ⟨y, hy⟩ : ∃ y, l[q]? = some y := ⟨_, List.getElem?_eq_getElem (by rw [h.len]; exact hqm)⟩
    obtain ⟨g1, g2, g3, g4⟩ := h.at' hy
    have Hx : x.head ∈ headsL code := List.mem_of_getElem? h1
    have Hy : y.head ∈ headsL code := List.mem_of_getElem? g1
    obtain ⟨hiq, hxy⟩ := (withinD_iff h1 g1).1 hqw
    have hne : x.head ≠ y.head := heads_ne h1 g1 hiq
    refine ⟨q, y, hq, fun e => hiq e.symm, hy, by rw [g2]; exact hxy, ?_⟩
    rw [depth_range, h.len]
    unfold aroundOf
    refine List.countP_congr fun k hk => ?_
    have hk' := List.mem_range.1 hk
    obtain ⟨z, hz⟩ : ∃ z, l[k]? = some z := ⟨_, List.getElem?_eq_getElem (by rw [h.len]; exact hk')⟩
    obtain ⟨f1, f2, f3, f4⟩ := h.at' hz
    have Hz : z.head ∈ headsL code := List.mem_of_getElem? f1
    rw [hz]
    simp only [List.contains_iff_mem]
    rw [withinD_iff h1 f1, f2]
    constructor
    · intro hyz
      by_cases ekq : k = q
      · subst ekq
        rw [hy] at hz; cases hz
        exact ⟨hiq, hxy⟩
      · have hyz' : y.head ≠ z.head := heads_ne g1 f1 (fun e => ekq e.symm)
        have hxz : x.head ∈ memL code z.head := (memL_iff Hz).2 (nest_sub Hy Hz ((memL_iff Hz).1 hyz) hyz' ((memL_iff Hy).1 hxy))
        refine ⟨fun e => ?_, hxz⟩
        subst e
        rw [hx] at hz; cases hz
        exact hne (nest_anti Hx Hy ((memL_iff Hx).1 hyz) ((memL_iff Hy).1 hxy))
    · rintro ⟨hik, hxz⟩
      by_cases ekq : k = q
      · subst ekq
        rw [hy] at hz; cases hz
        exact memL_head Hy
      · have hyz' : y.head ≠ z.head := heads_ne g1 f1 (fun e => ekq e.symm)
        by_cases hyz : y.head ∈ memL code z.head
        · exact hyz
        · exfalso
          rcases nest_or Hy Hz hyz' ((memL_iff Hy).1 hxy) ((memL_iff Hz).1 hxz) with h5 | h5
          · exact hyz ((memL_iff Hz).2 h5)
          · have h6 := memL_sub_len (a := z.head) (b := y.head) (fun w hw => (memL_iff Hy).2 (nest_sub Hz Hy h5 (fun e => hyz' e.symm) ((memL_iff Hz).1 hw))) (memL_head Hy) hyz
            have h7 := hmin k hk' ((withinD_iff h1 f1).2 ⟨hik, hxz⟩)
            rw [ToldL.nth g1, ToldL.nth f1] at h7
            simp only at h7
            omega
theorem no_parent {code : List Ins} {l : List LP} (h : ToldL code l) {i : Nat} {x : LP} (hx : l[i]? = some x) (ha : aroundOf ((headsL code).map (loopD code)) i (headsL code).length = 0) : x.parent = -1 := by
  obtain ⟨h1, h2, h3, h4⟩ := h.at' hx
  have hi : i < (headsL code).length := (List.getElem?_eq_some_iff.1 h1).1
  have hb := parents_best (ds := (headsL code).map (loopD code)) hi
  rw [← h4] at hb
  rcases hb with ⟨h, _⟩ | ⟨q, hq, hqm, hqw, _⟩
  · exact h
  · rw [around_zero.1 ha q hqm] at hqw; cases hqw
theorem parent_range {code : List Ins} {l : List LP} (h : ToldL code l) {i : Nat} {x : LP} (hx : l[i]? = some x) : -1 ≤ x.parent ∧ x.parent < l.length := by
  obtain ⟨h1, h2, h3, h4⟩ := h.at' hx
  have hi : i < (headsL code).length := (List.getElem?_eq_some_iff.1 h1).1
  have hp := ParOK.out (headsL code).length ((headsL code).map (loopD code)) (headsL code).length
  have := hp x.parent (by rw [h4]; exact getD_mem (by rw [outP_len]; exact hi))
  rw [h.len]
  exact this
end Go.Proofs.YtapjdndcnenadaaDoor

namespace Go.Proofs.YtapjdndcnenadaaDoor
open Go.RowKit

abbrev rowV (g n : Nat) : Value := .slice (some ⟨g, 0, none⟩) n n
theorem Tryd.infoBoolRow : (Tryd.prog.info? 45).map (fun i => (i.zero, i.size, i.bytes)) = some (some (.slice none 0 0), 1, 24) := by kernel_rfl
theorem cell_of_grown {W w' : World} {row : Option Nat} {g b : Nat} (hgr : W.grownBy w' row) (hlt : g < W.heap.size) (hne : row ≠ some g) : w'.cell? ⟨g, b, none⟩ = W.cell? ⟨g, b, none⟩ := by
  have e : w'.heap[g]? = W.heap[g]? := hgr.block g hlt (fun e => hne e.symm)
  unfold World.cell?
  rw [e]
/-- What lies in a block below C stays so. -/
theorem ownsRow_belowC {w w' : World} {B C : Nat} {e : TypeId} {size : Nat} {v : Value} {n : Nat} {xs : List Value} (h : w.ownsRow B e size v n xs) (hb : Below C w w') (hC : ∀ k, v.ownBlock = some k → k < C) : w'.ownsRow B e size v n xs := by
  obtain ⟨h1, h2⟩ := h
  refine ⟨h1, ?_⟩
  rcases h2 with h2 | ⟨g, cap, cur, hv, hg, hh, r⟩
  · exact Or.inl h2
  · exact Or.inr ⟨g, cap, cur, hv, hg, by rw [hb.block g (hC g (by rw [hv]; rfl))]; exact hh, r⟩

/-- A list of rows of n bools, all of it from B on and below G. -/
structure RWS (W : World) (B G n : Nat) (rv : Value) (vs : List Value) (bit : Nat → Nat → Bool) : Prop where
  rows : W.ownsRow B 45 1 rv vs.length vs
  each : ∀ i, i < vs.length → ∃ g, vs[i]? = some (rowV g n) ∧ B ≤ g ∧ g < G ∧ rv.ownBlock ≠ some g ∧ ∀ b, b < n → W.cell? ⟨g, b, none⟩ = some (.bool (bit i b))
  hi : ∀ k, rv.ownBlock = some k → k < G
  size : G ≤ W.heap.size
theorem RWS.later {W W' : World} {B G n : Nat} {rv : Value} {vs : List Value} {bit : Nat → Nat → Bool} (h : RWS W B G n rv vs bit) (hb : Below G W W') : RWS W' B G n rv vs bit :=
  ⟨ownsRow_belowC h.rows hb h.hi, fun i hi => by
    obtain ⟨g, h1, h2, h3, h4, h5⟩ := h.each i hi
    exact ⟨g, h1, h2, h3, h4, fun b hb' => (hb.cell (p := ⟨g, b, none⟩) h3).trans (h5 b hb')⟩, h.hi, Nat.le_trans h.size hb.size⟩
theorem RWS.later' {W W' : World} {B G n : Nat} {rv : Value} {vs : List Value} {bit : Nat → Nat → Bool} (h : RWS W B W.heap.size n rv vs bit) (hG : G = W.heap.size) (hb : Below G W W') : RWS W' B G n rv vs bit := by
  subst hG; exact h.later hb
theorem RWS.top {W : World} {B G n : Nat} {rv : Value} {vs : List Value} {bit : Nat → Nat → Bool} (h : RWS W B G n rv vs bit) : RWS W B W.heap.size n rv vs bit :=
  have hs := h.size
  ⟨h.rows, fun i hi => by obtain ⟨g, h1, h2, h3, h4, h5⟩ := h.each i hi; exact ⟨g, h1, h2, by omega, h4, h5⟩, fun k hk => by have := h.hi k hk; omega, Nat.le_refl _⟩
theorem RWS.push {W w' : World} {B G n : Nat} {rv v' : Value} {vs : List Value} {bit : Nat → Nat → Bool} {o : Obj} (h : RWS W B G n rv vs bit) {g : Nat} (hg : G ≤ g) (hB : B ≤ G) {rl : List Bool} (hrow : OwnBools W G (rowV g n) rl)
    (hrl : ∀ b, b < n → rl.getD b false = bit vs.length b) (hlen : rl.length = n)
    (ho : w'.ownsRow B 45 1 v' (vs.length + 1) (vs ++ [rowV g n])) (hgr : (W.alloc o).grownBy w' rv.ownBlock) (hfr : Fresh (W.alloc o) rv v') : RWS w' B w'.heap.size n v' (vs ++ [rowV g n]) bit := by
  have hs := h.size
  have hsz := hgr.size
  rw [World.size_alloc] at hsz
  have hgs : g < W.heap.size := (World.ownsRow.lt hrow g rfl).2
  have hcell : ∀ x b, x < W.heap.size → rv.ownBlock ≠ some x → w'.cell? ⟨x, b, none⟩ = W.cell? ⟨x, b, none⟩ := fun x b hx hne =>
    (cell_of_grown hgr (by rw [World.size_alloc]; omega) hne).trans (((Below.refl W.heap.size W).alloc (Nat.le_refl _) o).cell (p := ⟨x, b, none⟩) hx)
  refine ⟨by simpa using ho, fun i hi => ?_, fun q hq => (World.ownsRow.lt ho q hq).2, Nat.le_refl _⟩
  rw [List.length_append, List.length_singleton] at hi
  by_cases hik : i < vs.length
  · obtain ⟨x, h1, h2, h3, h4, h5⟩ := h.each i hik
    refine ⟨x, ?_, h2, by omega, hfr x (by rw [World.size_alloc]; omega) h4, fun b hb => (hcell x b (by omega) h4).trans (h5 b hb)⟩
    rw [List.getElem?_append_left hik]; exact h1
  · have e : i = vs.length := by omega
    have hne : rv.ownBlock ≠ some g := fun e => by have := h.hi g e; omega
    refine ⟨g, ?_, by omega, by omega, hfr g (by rw [World.size_alloc]; omega) hne, fun b hb => ?_⟩
    · rw [e]; simp
    · rw [hcell g b hgs hne, OwnBools.cell hrow (by omega), hrl b hb, e]
/-- The row that stands at i. -/
theorem RWS.at' {W : World} {B G n q cap g : Nat} {vs : List Value} {bit : Nat → Nat → Bool} (h : RWS W B G n (.slice (some ⟨g, 0, none⟩) q cap) vs bit) {i : Nat} (hi : i < vs.length) :
    ∃ x, W.cell? ⟨g, i, none⟩ = some (rowV x n) ∧ ∀ b, b < n → W.cell? ⟨x, b, none⟩ = some (.bool (bit i b)) := by
  obtain ⟨x, h1, _, _, _, h5⟩ := h.each i hi
  refine ⟨x, ?_, h5⟩
  have hq : q = vs.length := by
    rcases h.rows.2 with ⟨h2, _⟩ | ⟨_, _, _, h2, _⟩ <;> cases h2; rfl
  have hr := h.rows
  rw [hq] at hr
  rw [World.ownsRow.cellAt hr i (by omega)]
  exact h1

/-- A row in the making: the first j members are marked. -/
structure RowIs (n : Nat) (mem : List Int) (j : Nat) (rl : List Bool) : Prop where
  len : rl.length = n
  bit : ∀ b, b < n → rl.getD b false = decide ((b : Int) ∈ mem.take j)
theorem RowIs.zero (n : Nat) (mem : List Int) : RowIs n mem 0 (List.replicate n false) := ⟨by simp, fun b hb => by simp [List.getD, hb]⟩
theorem RowIs.next {n : Nat} {mem : List Int} {j : Nat} {rl : List Bool} (h : RowIs n mem j rl) {u : Nat} (hu : mem[j]? = some (u : Int)) (hn : u < n) : RowIs n mem (j + 1) (rl.set u true) := by
  refine ⟨by rw [List.length_set]; exact h.len, fun b hb => ?_⟩
  rw [getD_set _ _ _ _ _ (by rw [h.len]; exact hn)]
  split
  · rename_i e; subst e
    symm
    rw [decide_eq_true_eq, List.take_add_one, hu]; simp
  · rename_i e
    rw [h.bit b hb, List.take_add_one, hu]
    have e2 : ¬ (b : Int) = (u : Int) := by omega
    simp [e2]
theorem RowIs.all {n : Nat} {mem : List Int} {rl : List Bool} {j : Nat} (h : RowIs n mem j rl) (hj : mem.length ≤ j) {b : Nat} (hb : b < n) : rl.getD b false = decide ((b : Int) ∈ mem) := by
  rw [h.bit b hb, List.take_of_length_le hj]

/-- What stands once the loops are told. -/
structure NX (W : World) (bx : Nat) (s : ByteArray) (vp : Value) (regs words : Int) (vc : Value) (code : List Ins) (v : Value) (l : List LP) : Prop where
  lt : bx < W.heap.size
  fn : FnAt W bx s vp regs words vc
  loops : LoopsIn W v l
  code : CodeIn W vc code
theorem NX.later {W W' : World} {bx : Nat} {s : ByteArray} {vp : Value} {regs words : Int} {vc : Value} {code : List Ins} {v : Value} {l : List LP} (h : NX W bx s vp regs words vc code v l) (hb : Below W.heap.size W W') : NX W' bx s vp regs words vc code v l :=
  ⟨Nat.lt_of_lt_of_le h.lt hb.size, h.fn.later hb h.lt, h.loops.later hb, SliceIn.later h.code hb⟩

/-- The i-th loop's row. -/
noncomputable def bitN (l : List LP) (i b : Nat) : Bool := match l[i]? with
  | some x => decide ((b : Int) ∈ x.mem)
  | none => false
theorem bitN_at {l : List LP} {i : Nat} {x : LP} (h : l[i]? = some x) (b : Nat) : bitN l i b = decide ((b : Int) ∈ x.mem) := by unfold bitN; rw [h]

/-- What is known of a loop that is told. -/
theorem ToldL.mem_at {code : List Ins} {l : List LP} (h : ToldL code l) {i : Nat} {x : LP} (hx : l[i]? = some x) {j : Nat} {u : Int} (hu : x.mem[j]? = some u) : 0 ≤ u ∧ u < code.length ∧ ∀ j' u', j' < j → x.mem[j']? = some u' → u' < u := by
  obtain ⟨h1, h2, h3, h4⟩ := h.at' hx
  have hm := List.mem_of_getElem? hu
  rw [h2] at hm
  obtain ⟨a, b⟩ := memL_range hm
  refine ⟨a, b, fun j' u' hj hu' => ?_⟩
  have hs := List.pairwise_iff_getElem.1 (memL_sorted code x.head)
  rw [h2] at hu hu'
  obtain ⟨g1, e1⟩ := List.getElem?_eq_some_iff.1 hu
  obtain ⟨g2, e2⟩ := List.getElem?_eq_some_iff.1 hu'
  have := hs j' j g2 g1 hj
  omega
theorem ToldL.head_at {code : List Ins} {l : List LP} (h : ToldL code l) {i : Nat} {x : LP} (hx : l[i]? = some x) : 0 ≤ x.head ∧ x.head < code.length ∧ code.length ≤ 1024 ∧ x.head ∈ x.mem ∧ ∀ i' y, i' < i → l[i']? = some y → y.head < x.head := by
  obtain ⟨h1, h2, h3, h4⟩ := h.at' hx
  have Hx := List.mem_of_getElem? h1
  have hi := headsL_in Hx
  refine ⟨hi.lo, hi.hi, hi.has, by rw [h2]; exact memL_head Hx, fun i' y hi' hy => ?_⟩
  obtain ⟨g1, _⟩ := h.at' hy
  have hs := List.pairwise_iff_getElem.1 (headsL_sorted code)
  obtain ⟨q1, e1⟩ := List.getElem?_eq_some_iff.1 h1
  obtain ⟨q2, e2⟩ := List.getElem?_eq_some_iff.1 g1
  have := hs i' i q2 q1 hi'
  omega
end Go.Proofs.YtapjdndcnenadaaDoor
