/- What the loops of a function are; lists of loops that the call has made. -/
import Derived.Test.YtapjdndcnenadaaDoorCounts
/- Lists of loops in memory; in how many loops an instruction lies. -/
namespace Go.Proofs.YtapjdndcnenadaaDoor
open Go.RowKit

/-- A loop, as plain data; vm and vb are the slices that hold its members and its back edges. -/
structure LP where
  head : Int
  parent : Int
  vm : Value
  vb : Value
  mem : List Int
  backs : List Int
def LP.cells (x : LP) : List Value := [.int .i64 x.head, .int .i64 x.parent, x.vm, x.vb]
def loopVs (l : List LP) : List Value := l.flatMap LP.cells
theorem loopVs_length (l : List LP) : (loopVs l).length = l.length * 4 := by
  unfold loopVs
  induction l with
  | nil => rfl
  | cons x l ih => rw [List.flatMap_cons, List.length_append, ih]; simp [LP.cells]; omega
theorem loopVs_at : ∀ (l : List LP) (k j : Nat), j < 4 → (loopVs l)[k * 4 + j]? = (match l[k]? with | some x => x.cells[j]? | none => none)
  | [], k, j, _ => by simp [loopVs]
  | x :: l, 0, j, h => by
    unfold loopVs
    rw [List.flatMap_cons, List.getElem?_append_left (by simp [LP.cells]; omega)]
    simp
  | x :: l, k + 1, j, h => by
    have ih := loopVs_at l k j h
    unfold loopVs at *
    rw [List.flatMap_cons, List.getElem?_append_right (by simp [LP.cells]; omega), show (k + 1) * 4 + j - x.cells.length = k * 4 + j by simp [LP.cells]; omega, ih]
    simp
/-- v reads as a list of loops. -/
structure LoopsIn (w : World) (v : Value) (l : List LP) : Prop where
  row : SliceIn w v l.length 4 (loopVs l)
  each : ∀ x ∈ l, IntsIn w x.vm x.mem ∧ IntsIn w x.vb x.backs
theorem LoopsIn.later {w w' : World} {v : Value} {l : List LP} (h : LoopsIn w v l) (hb : Below w.heap.size w w') : LoopsIn w' v l :=
  ⟨SliceIn.later h.row hb, fun x hx => ⟨SliceIn.later (h.each x hx).1 hb, SliceIn.later (h.each x hx).2 hb⟩⟩
theorem LoopsIn.form {w : World} {v : Value} {l : List LP} (h : LoopsIn w v l) : ∃ a cap, v = .slice a l.length cap ∧ l.length ≤ maxLen ∧ (0 < l.length → ∃ b off, a = some ⟨b, off, none⟩ ∧ b < w.heap.size) := by
  obtain ⟨-, a, cap, rfl, h2, h3, h4, h5⟩ := h.row
  exact ⟨a, cap, rfl, by omega, fun h0 => by obtain ⟨b, off, e, hb, _⟩ := h5 h0; exact ⟨b, off, e, hb⟩⟩
theorem LoopsIn.at' {w : World} {b off n cap : Nat} {l : List LP} (h : LoopsIn w (.slice (some ⟨b, off, none⟩) n cap) l) {k : Nat} {x : LP} (hx : l[k]? = some x) :
    w.cell? ⟨b, off + k * 4, none⟩ = some (.int .i64 x.head) ∧ w.cell? ⟨b, off + k * 4 + 1, none⟩ = some (.int .i64 x.parent) ∧ w.cell? ⟨b, off + k * 4 + 2, none⟩ = some x.vm ∧ w.cell? ⟨b, off + k * 4 + 3, none⟩ = some x.vb := by
  obtain ⟨_, a, cap', hv, _, _, _, hc⟩ := h.row
  cases hv
  have hk : k < l.length := (List.getElem?_eq_some_iff.1 hx).1
  obtain ⟨b', off', ha, _, hc⟩ := hc (by omega)
  cases ha
  have g : ∀ j u, j < 4 → x.cells[j]? = some u → w.cell? ⟨b, off + k * 4 + j, none⟩ = some u := fun j u hj hu => by rw [Nat.add_assoc]; exact hc _ _ (by rw [loopVs_at l k j hj, hx]; exact hu)
  exact ⟨g 0 _ (by omega) rfl, g 1 _ (by omega) rfl, g 2 _ (by omega) rfl, g 3 _ (by omega) rfl⟩

/-- In how many. -/
def depthOf (l : List LP) (a : Int) : Nat := l.countP fun x => x.mem.contains a
theorem depthOf_le (l : List LP) (a : Int) : depthOf l a ≤ l.length := List.countP_le_length
theorem depth_take {l : List LP} {k : Nat} {x : LP} (h : l[k]? = some x) (a : Int) : depthOf (l.take (k + 1)) a = depthOf (l.take k) a + if x.mem.contains a then 1 else 0 := by
  unfold depthOf
  rw [List.take_add_one, h, List.countP_append]
  simp [List.countP_cons]

set_option maxRecDepth 100000 in
set_option maxHeartbeats 2000000 in
theorem depth_any (v : Value) (l : List LP) (a : Int) (w : World) (h : LoopsIn w v l) :
    Calls Tryd.prog 13 #[v, .int .i64 a] w (Gives (.int .i64 (depthOf l a : Nat)) w) := by
  obtain ⟨av, cv, rfl, hlm, hav⟩ := h.form
  have H := Lib.hid h
  obtain ⟨n, hn⟩ : ∃ n, n = l.length := ⟨_, rfl⟩
  rw [← hn] at hlm hav h ⊢
  have hn9 : n ≤ 9223372036854775807 := by unfold maxLen at hlm; omega
  have Hn := Lib.hid hn
  clear h hn hlm
  go_enter Tryd.func13, Tryd.ntmps13
  go_wp2_with fail
  go_loopw [5, 12] (fun d i wi => ∃ k : Nat, k ≤ n ∧ d = .int .i64 (depthOf (l.take k) a : Nat) ∧ i = .int .i64 (k : Int) ∧ Below w.heap.size w wi) (fun _ i _ => n - (intOf i).toNat)
  case atStart => exact ⟨0, Nat.zero_le _, rfl, rfl, Below.refl _ _⟩
  case round =>
    obtain ⟨k, hk, rfl, rfl, hb⟩ := hrel
    have hdk : depthOf (l.take k) a ≤ k := Nat.le_trans (depthOf_le _ _) (by rw [List.length_take]; omega)
    by_cases hkn : k < n
    · obtain ⟨g, off, rfl, hg⟩ := hav (by omega)
      obtain ⟨x, hx⟩ : ∃ x, l[k]? = some x := ⟨_, List.getElem?_eq_getElem (by rw [← Hn.out]; exact hkn)⟩
      have hHl := H.out.later hb
      rw [← Hn.out] at hHl
      obtain ⟨c0, c1, c2, c3⟩ := hHl.at' hx
      have hm := (hHl.each x (List.mem_of_getElem? hx)).1
      have hvb := (hHl.each x (List.mem_of_getElem? hx)).2
      obtain ⟨-, ab, cb, hvb, -⟩ := hvb
      have hdt := depth_take hx a
      have hm0 := hm
      obtain ⟨-, am, cm, hvm, -, hmm, -, ham⟩ := hm0
      have hm9 : x.mem.length ≤ 9223372036854775807 := by
        obtain ⟨-, a2, cap2, hv2, h5, h6, _⟩ := hm
        unfold maxLen at h6; omega
      obtain ⟨head, parent, vm, vb, mem, backs⟩ := x
      simp only at c0 c1 c2 c3 hm hdt hvm ham hm9 hvb
      subst hvm; subst hvb
      obtain ⟨nb, hnb⟩ : ∃ nb, nb = backs.length := ⟨_, rfl⟩
      rw [← hnb] at c3
      clear hnb
      have Hx := Lib.hid hx
      have Hm := Lib.hid hm
      have Hb := Lib.hid hb
      have Hdt := Lib.hid hdt
      obtain ⟨nm, hnm⟩ : ∃ nm, nm = mem.length := ⟨_, rfl⟩
      rw [← hnm] at c2 ham hm9
      have Hnm := Lib.hid hnm
      obtain ⟨d, hd⟩ : ∃ d, d = depthOf (l.take k) a := ⟨_, rfl⟩
      rw [← hd] at hdk ⊢
      have Hd := Lib.hid hd
      have hgw : g < wr.heap.size := Nat.lt_of_lt_of_le hg hb.size
      clear hx hm hb hdt hnm hd hHl hmm
      go_wp2_with fail
      obtain ⟨W2, hW2⟩ : ∃ W2, W2 = wr.alloc (.cells #[.int .i64 head, .int .i64 parent, .slice am nm cm, .slice ab nb cb] 40) := ⟨_, rfl⟩
      rw [← hW2]
      have hbW : Below wr.heap.size wr W2 := by rw [hW2]; exact (Below.refl _ _).alloc (Nat.le_refl _) _
      have HbW := Lib.hid hbW
      clear hW2 hbW
      go_loopw [5, 19] (fun dv i wi => ∃ j : Nat, j ≤ nm ∧ dv = .int .i64 (d : Int) ∧ i = .int .i64 (j : Int) ∧ (∀ t u, t < j → mem[t]? = some u → u ≠ a) ∧ wi = W2) (fun _ i _ => nm - (intOf i).toNat)
      case atStart => exact ⟨0, Nat.zero_le _, rfl, rfl, fun t u h => by omega, rfl⟩
      case round =>
        obtain ⟨j, hj, rfl, rfl, hno, hwr⟩ := hrel
        subst hwr
        by_cases hjn : j < nm
        · obtain ⟨gm, om, rfl, hgm, hcm⟩ := ham (by omega)
          obtain ⟨u, hu⟩ : ∃ u, mem[j]? = some u := ⟨_, List.getElem?_eq_getElem (by rw [← Hnm.out]; exact hjn)⟩
          have hcu : World.cell? _ ⟨gm, om + j, none⟩ = some (.int .i64 u) := (HbW.out.cell (p := ⟨gm, om + j, none⟩) hgm).trans (hcm j _ (by simp [intVs, hu]))
          have Hu := Lib.hid hu
          have Hno := Lib.hid hno
          clear hu hno hcm
          by_cases hua : u = a
          · have hq : (u == a) = true := by simp [hua]
            have Hc : Hid (depthOf (l.take (k + 1)) a = d + 1) := by
              show _ = _
              rw [Hdt.out, if_pos, Hd.out]
              rw [List.contains_iff_mem, ← hua]; exact List.mem_of_getElem? Hu.out
            clear hua
            go_wp2_with fail
            go_roundw
            case rel => exact ⟨k + 1, hkn, by rw [Hc.out]; go_num, by go_num, Hb.out.trans (HbW.out.mono Hb.out.size)⟩
            case measure => simp [intOf]; omega
          · have hq : (u == a) = false := by simp [hua]
            go_wp2_with fail
            go_roundw
            case rel =>
              refine ⟨j + 1, hjn, rfl, by go_num, fun t y ht hy => ?_, trivial⟩
              by_cases e : t = j
              · subst e
                rw [Hu.out] at hy
                cases hy; exact hua
              · exact Hno.out t y (by omega) hy
            case measure => simp [intOf]; omega
        · obtain rfl : nm = j := by omega
          have Hc : Hid (depthOf (l.take (k + 1)) a = d) := by
            show _ = _
            rw [Hdt.out, if_neg, Hd.out, Nat.add_zero]
            rw [List.contains_iff_mem]
            intro hm
            obtain ⟨t, ht, e⟩ := List.mem_iff_getElem.1 hm
            exact hno t a (by rw [Hnm.out]; exact ht) (by rw [List.getElem?_eq_getElem ht, e]) rfl
          clear hno hjn
          go_wp2_with fail
          go_roundw
          case rel => exact ⟨k + 1, hkn, by rw [Hc.out], by go_num, Hb.out.trans (HbW.out.mono Hb.out.size)⟩
          case measure => simp [intOf]; omega
    · obtain rfl : n = k := by omega
      have Hres : Hid (l.take n = l) := List.take_of_length_le (by rw [← Hn.out]; exact Nat.le_refl _)
      have Hb := Lib.hid hb
      clear hkn hb
      go_wp2_with fail
      go_ret
      exact ⟨by rw [Hres.out]; rfl, Hb.out⟩
end Go.Proofs.YtapjdndcnenadaaDoor

namespace Go.Proofs.YtapjdndcnenadaaDoor
open Go.RowKit

/-! ### the heads, the members -/
theorem rising_filter (p : Nat → Bool) (n : Nat) : (((List.range n).filter p).map Int.ofNat).Pairwise (· < ·) := by
  refine List.Pairwise.map Int.ofNat (R := (· < ·)) ?_ ((List.pairwise_lt_range).filter _)
  intro a b h
  exact Int.ofNat_lt.2 h
theorem mem_filterI {p : Nat → Bool} {n : Nat} {x : Int} : x ∈ ((List.range n).filter p).map Int.ofNat ↔ 0 ≤ x ∧ x < n ∧ p x.toNat = true := by
  simp only [List.mem_map, List.mem_filter, List.mem_range]
  constructor
  · rintro ⟨i, ⟨h1, h2⟩, rfl⟩
    exact ⟨by simp, by simp; omega, by simpa using h2⟩
  · rintro ⟨h1, h2, h3⟩
    exact ⟨x.toNat, ⟨by omega, h3⟩, by simp; omega⟩
open Classical in
noncomputable def headsL (code : List Ins) : List Int := ((List.range code.length).filter fun h : Nat => decide (toI (backsE code) (h : Int) ≠ [])).map Int.ofNat
open Classical in
noncomputable def memL (code : List Ins) (h : Int) : List Int := ((List.range code.length).filter fun x : Nat => decide (MemP code h (x : Int))).map Int.ofNat
theorem headsL_mem {code : List Ins} {h : Int} : h ∈ headsL code ↔ toI (backsE code) h ≠ [] := by
  unfold headsL
  rw [mem_filterI]
  simp only [decide_eq_true_eq]
  constructor
  · rintro ⟨h1, h2, h3⟩
    rw [show ((h.toNat : Nat) : Int) = h by omega] at h3; exact h3
  · intro hn
    obtain ⟨u, hu⟩ := List.exists_mem_of_ne_nil _ hn
    have hi := (edge_in (backs_sub (toI_mem.1 hu))).2
    refine ⟨hi.lo, hi.hi, ?_⟩
    have := hi.lo
    rw [show ((h.toNat : Nat) : Int) = h by omega]; exact hn
theorem headsL_in {code : List Ins} {h : Int} (hh : h ∈ headsL code) : InFn code h := by
  obtain ⟨u, hu⟩ := List.exists_mem_of_ne_nil _ (headsL_mem.1 hh)
  exact (edge_in (backs_sub (toI_mem.1 hu))).2
theorem headsL_sorted (code : List Ins) : (headsL code).Pairwise (· < ·) := rising_filter _ _
theorem headsL_len (code : List Ins) : (headsL code).length ≤ code.length := by
  unfold headsL
  rw [List.length_map]
  exact Nat.le_trans (List.length_filter_le _ _) (by simp)
theorem memL_mem {code : List Ins} {h x : Int} (hh : InFn code h) : x ∈ memL code h ↔ MemP code h x := by
  unfold memL
  rw [mem_filterI]
  simp only [decide_eq_true_eq]
  constructor
  · rintro ⟨h1, h2, h3⟩
    rw [show ((x.toNat : Nat) : Int) = x by omega] at h3; exact h3
  · intro hm
    have hi : InFn code x := by
      rcases hm with rfl | hm
      · exact hh
      · exact memCl_in hm
    refine ⟨hi.lo, hi.hi, ?_⟩
    have := hi.lo
    rw [show ((x.toNat : Nat) : Int) = x by omega]; exact hm
theorem memL_sorted (code : List Ins) (h : Int) : (memL code h).Pairwise (· < ·) := rising_filter _ _
theorem memL_len (code : List Ins) (h : Int) : (memL code h).length ≤ code.length := by
  unfold memL
  rw [List.length_map]
  exact Nat.le_trans (List.length_filter_le _ _) (by simp)
theorem memL_range {code : List Ins} {h x : Int} (hx : x ∈ memL code h) : 0 ≤ x ∧ x < code.length := by
  unfold memL at hx
  rw [mem_filterI] at hx
  exact ⟨hx.1, hx.2.1⟩
theorem backs_range {code : List Ins} {h x : Int} (hx : x ∈ toI (backsE code) h) : 0 ≤ x ∧ x < code.length := by
  have hi := (edge_in (backs_sub (toI_mem.1 hx))).1
  exact ⟨hi.lo, hi.hi⟩
theorem memL_eq {code : List Ins} {h : Int} {S : List Int} (hh : InFn code h) (hn : S.Nodup) (hS : ∀ x, x ∈ S ↔ MemP code h x) : sortL S = memL code h :=
  sorted_ext _ _ (sortL_sorted S hn) (memL_sorted code h) fun x => by rw [sortL_mem, hS, memL_mem hh]
theorem headsL_eq {code : List Ins} {S : List Int} (hn : S.Nodup) (hS : ∀ x, x ∈ S ↔ toI (backsE code) x ≠ []) : sortL S = headsL code :=
  sorted_ext _ _ (sortL_sorted S hn) (headsL_sorted code) fun x => by rw [sortL_mem, hS, headsL_mem]

/-! ### who lies next around -/
/-- A loop without its place: the head, the members, where its back edges go from. -/
abbrev LD := Int × List Int × List Int
noncomputable def loopD (code : List Ins) (h : Int) : LD := (h, memL code h, toI (backsE code) h)
def LP.d (x : LP) : LD := (x.head, x.mem, x.backs)
def nthD (ds : List LD) (i : Nat) : LD := ds.getD i (0, [], [])
def withinD (ds : List LD) (i k : Nat) : Bool := decide (i ≠ k) && (nthD ds k).2.1.contains (nthD ds i).1
def stepP (ds : List LD) (ps : List Int) (i k : Nat) : List Int :=
  if withinD ds i k && (decide (ps.getD i 0 < 0) || decide ((nthD ds k).2.1.length < (nthD ds (ps.getD i 0).toNat).2.1.length)) then ps.set i (k : Int) else ps
def inP (ds : List LD) (ps : List Int) (i : Nat) : Nat → List Int
  | 0 => ps
  | k + 1 => stepP ds (inP ds ps i k) i k
def outP (ds : List LD) (m : Nat) : Nat → List Int
  | 0 => List.replicate m (-1)
  | i + 1 => inP ds (outP ds m i) i m
theorem stepP_len (ds : List LD) (ps : List Int) (i k : Nat) : (stepP ds ps i k).length = ps.length := by unfold stepP; split <;> simp
theorem inP_len (ds : List LD) (ps : List Int) (i : Nat) : ∀ k, (inP ds ps i k).length = ps.length
  | 0 => rfl
  | k + 1 => by rw [inP, stepP_len, inP_len ds ps i k]
theorem outP_len (ds : List LD) (m : Nat) : ∀ i, (outP ds m i).length = m
  | 0 => by simp [outP]
  | i + 1 => by rw [outP, inP_len, outP_len ds m i]
/-- Every place is -1 or one of the loops. -/
def ParOK (m : Nat) (ps : List Int) : Prop := ∀ p ∈ ps, -1 ≤ p ∧ p < m
theorem ParOK.step {m : Nat} {ds : List LD} {ps : List Int} {i k : Nat} (h : ParOK m ps) (hk : k < m) : ParOK m (stepP ds ps i k) := by
  unfold stepP
  split
  · intro p hp
    rcases List.mem_or_eq_of_mem_set hp with hp | rfl
    · exact h p hp
    · omega
  · exact h
theorem ParOK.inn {m : Nat} {ds : List LD} {ps : List Int} {i : Nat} (h : ParOK m ps) : ∀ k, k ≤ m → ParOK m (inP ds ps i k)
  | 0, _ => h
  | k + 1, hk => (ParOK.inn h k (by omega)).step (by omega)
theorem ParOK.out (m : Nat) (ds : List LD) : ∀ i, ParOK m (outP ds m i)
  | 0 => fun p hp => by
    simp only [outP, List.mem_replicate] at hp
    omega
  | i + 1 => (ParOK.out m ds i).inn m (Nat.le_refl _)

/-- The loops of a function, or what is wrong first. -/
def FindIs (code : List Ins) (l : List LP) (E at' : Int) : Prop :=
  (1024 < code.length ∧ l = [] ∧ E = 97 ∧ at' = 1024) ∨
  (code.length ≤ 1024 ∧ RoundIs code at' true ∧ l = [] ∧ E = 70) ∨
  (code.length ≤ 1024 ∧ (∀ v, ¬ Way (aheadE code) v v) ∧ l = [] ∧ ∃ (k : Nat) (h : Int), (headsL code)[k]? = some h ∧ (∀ (j : Nat) h', j < k → (headsL code)[j]? = some h' → (countsOf code h' (memL code h') (toI (backsE code) h')).1 = 0) ∧
    countsOf code h (memL code h) (toI (backsE code) h) = (E, at') ∧ E ≠ 0) ∨
  (code.length ≤ 1024 ∧ (∀ v, ¬ Way (aheadE code) v v) ∧ (∀ h ∈ headsL code, (countsOf code h (memL code h) (toI (backsE code) h)).1 = 0) ∧ E = 0 ∧ at' = 0 ∧
    l.map LP.d = (headsL code).map (loopD code) ∧ l.map LP.parent = outP ((headsL code).map (loopD code)) (headsL code).length (headsL code).length)

/-! ### lists of loops of the call's own -/
def blocksOf (v : Value) (l : List LP) : List Nat := v.ownBlock.toList ++ l.flatMap fun x => x.vm.ownBlock.toList ++ x.vb.ownBlock.toList
structure OwnLoops (W : World) (B B1 : Nat) (v : Value) (l : List LP) : Prop where
  row : W.ownsRow B1 40 4 v l.length (loopVs l)
  each : ∀ x ∈ l, OwnInts W B x.vm x.mem ∧ OwnInts W B x.vb x.backs
  apart : (blocksOf v l).Nodup
theorem OwnLoops.nil (W : World) (B B1 : Nat) : OwnLoops W B B1 nilV [] := ⟨World.ownsRow_nil _ _ _ _, fun x hx => absurd hx (by simp), by simp [blocksOf, Value.ownBlock]⟩
theorem OwnLoops.later {W W' : World} {B B1 : Nat} {v : Value} {l : List LP} (h : OwnLoops W B B1 v l) (hb : Below W.heap.size W W') : OwnLoops W' B B1 v l :=
  ⟨ownsRow_below h.row hb (Nat.le_refl _), fun x hx => ⟨ownsRow_below (h.each x hx).1 hb (Nat.le_refl _), ownsRow_below (h.each x hx).2 hb (Nat.le_refl _)⟩, h.apart⟩
theorem OwnLoops.toIn {W : World} {B B1 : Nat} {v : Value} {l : List LP} (h : OwnLoops W B B1 v l) : LoopsIn W v l :=
  ⟨SliceIn.of_owns h.row, fun x hx => ⟨SliceIn.of_owns (h.each x hx).1, SliceIn.of_owns (h.each x hx).2⟩⟩
theorem OwnLoops.mono {W : World} {B B1 B' B1' : Nat} {v : Value} {l : List LP} (h : OwnLoops W B B1 v l) (hB : B' ≤ B) (hB1 : B1' ≤ B1) : OwnLoops W B' B1' v l :=
  ⟨ownsRow_mono h.row hB1, fun x hx => ⟨ownsRow_mono (h.each x hx).1 hB, ownsRow_mono (h.each x hx).2 hB⟩, h.apart⟩
theorem blocks_lt {W : World} {B B1 : Nat} {v : Value} {l : List LP} (h : OwnLoops W B B1 v l) {k : Nat} (hk : k ∈ blocksOf v l) : k < W.heap.size := by
  unfold blocksOf at hk
  rcases List.mem_append.1 hk with hk | hk
  · exact (World.ownsRow.lt h.row k (by simpa using hk)).2
  · obtain ⟨x, hx, hk⟩ := List.mem_flatMap.1 hk
    rcases List.mem_append.1 hk with hk | hk
    · exact (World.ownsRow.lt (h.each x hx).1 k (by simpa using hk)).2
    · exact (World.ownsRow.lt (h.each x hx).2 k (by simpa using hk)).2
theorem loopVs_snoc (l : List LP) (x : LP) : loopVs (l ++ [x]) = loopVs l ++ x.cells := by unfold loopVs; simp
theorem blocks_snoc (v : Value) (l : List LP) (x : LP) : blocksOf v (l ++ [x]) = blocksOf v l ++ (x.vm.ownBlock.toList ++ x.vb.ownBlock.toList) := by unfold blocksOf; simp
/-- One more loop: w1 is the world ahead of the append. -/
theorem OwnLoops.snoc {w1 w2 : World} {B B1 : Nat} {v v' : Value} {l : List LP} {x : LP} (h : OwnLoops w1 B B1 v l) (hm : OwnInts w1 B x.vm x.mem) (hb : OwnInts w1 B x.vb x.backs)
    (hmb : ∀ k, x.vm.ownBlock = some k → x.vb.ownBlock ≠ some k) (hmn : ∀ k, x.vm.ownBlock = some k → ¬ k ∈ blocksOf v l) (hbn : ∀ k, x.vb.ownBlock = some k → ¬ k ∈ blocksOf v l)
    (hrow : w2.ownsRow B1 40 4 v' (l.length + 1) (loopVs l ++ x.cells)) (hg : w1.grownBy w2 v.ownBlock) (hf : Fresh w1 v v') : OwnLoops w2 B B1 v' (l ++ [x]) := by
  have hnd := h.apart
  have hvx : ∀ y ∈ l, ∀ k, v.ownBlock = some k → y.vm.ownBlock ≠ some k ∧ y.vb.ownBlock ≠ some k := fun y hy k hk => by
    have hn := List.nodup_append.1 (show (v.ownBlock.toList ++ _).Nodup from hnd)
    have h1 : k ∈ v.ownBlock.toList := by rw [hk]; simp
    refine ⟨fun e => ?_, fun e => ?_⟩
    · exact hn.2.2 k h1 k (List.mem_flatMap.2 ⟨y, hy, List.mem_append.2 (.inl (by rw [e]; simp))⟩) rfl
    · exact hn.2.2 k h1 k (List.mem_flatMap.2 ⟨y, hy, List.mem_append.2 (.inr (by rw [e]; simp))⟩) rfl
  have ne : ∀ (u : Value) (t : List Int), OwnInts w1 B u t → (∀ k, v.ownBlock = some k → u.ownBlock ≠ some k) → u.ownBlock = none ∨ u.ownBlock ≠ v.ownBlock := fun u t _ hne => by
    cases hu : u.ownBlock with
    | none => exact .inl rfl
    | some k => exact .inr (fun e => hne k e.symm hu)
  have hxv : ∀ k, v.ownBlock = some k → x.vm.ownBlock ≠ some k ∧ x.vb.ownBlock ≠ some k := fun k hk => by
    have h1 : k ∈ blocksOf v l := by unfold blocksOf; rw [hk]; simp
    exact ⟨fun e => hmn k e h1, fun e => hbn k e h1⟩
  refine ⟨?_, fun y hy => ?_, ?_⟩
  · rw [List.length_append, List.length_singleton, loopVs_snoc]; exact hrow
  · rcases List.mem_append.1 hy with hy | hy
    · exact ⟨World.ownsRow.kept (h.each y hy).1 hg (ne _ _ (h.each y hy).1 (fun k hk => (hvx y hy k hk).1)), World.ownsRow.kept (h.each y hy).2 hg (ne _ _ (h.each y hy).2 (fun k hk => (hvx y hy k hk).2))⟩
    · rw [List.mem_singleton.1 hy]
      exact ⟨World.ownsRow.kept hm hg (ne _ _ hm (fun k hk => (hxv k hk).1)), World.ownsRow.kept hb hg (ne _ _ hb (fun k hk => (hxv k hk).2))⟩
  · rw [blocks_snoc]
    have hnew : (x.vm.ownBlock.toList ++ x.vb.ownBlock.toList).Nodup := by
      rw [List.nodup_append]
      refine ⟨by cases x.vm.ownBlock <;> simp, by cases x.vb.ownBlock <;> simp, fun a ha b hb e => ?_⟩
      subst e
      exact hmb a (by simpa using ha) (by simpa using hb)
    have hxs : ∀ k, k ∈ x.vm.ownBlock.toList ++ x.vb.ownBlock.toList → ¬ k ∈ blocksOf v l ∧ k < w1.heap.size := fun k hk => by
      rcases List.mem_append.1 hk with hk | hk
      · exact ⟨hmn k (by simpa using hk), (World.ownsRow.lt hm k (by simpa using hk)).2⟩
      · exact ⟨hbn k (by simpa using hk), (World.ownsRow.lt hb k (by simpa using hk)).2⟩
    have hin := List.nodup_append.1 (show (v.ownBlock.toList ++ _).Nodup from hnd)
    have hvn : ∀ k, v'.ownBlock = some k → v.ownBlock = some k ∨ w1.heap.size ≤ k := fun k hk => by
      by_cases hk1 : v.ownBlock = some k
      · exact .inl hk1
      · exact .inr (Classical.byContradiction fun hlt => hf k (by omega) (fun e => hk1 e) hk)
    rw [List.nodup_append]
    refine ⟨?_, hnew, fun a ha b hb e => ?_⟩
    · unfold blocksOf
      rw [List.nodup_append]
      refine ⟨by cases v'.ownBlock <;> simp, hin.2.1, fun a ha b hb e => ?_⟩
      subst e
      rcases hvn a (by simpa using ha) with h1 | h1
      · exact hin.2.2 a (by rw [h1]; simp) a hb rfl
      · have := blocks_lt h (k := a) (by unfold blocksOf; exact List.mem_append.2 (.inr hb))
        omega
    · subst e
      obtain ⟨h1, h2⟩ := hxs a hb
      unfold blocksOf at ha
      rcases List.mem_append.1 ha with ha | ha
      · rcases hvn a (by simpa using ha) with h3 | h3
        · exact h1 (by unfold blocksOf; rw [h3]; simp)
        · omega
      · exact h1 (by unfold blocksOf; exact List.mem_append.2 (.inr ha))
def setPar (l : List LP) (i : Nat) (p : Int) : List LP := match l[i]? with
  | some x => l.set i { x with parent := p }
  | none => l
theorem setPar_d (l : List LP) (i : Nat) (p : Int) : (setPar l i p).map LP.d = l.map LP.d := by
  unfold setPar
  cases h : l[i]? with
  | none => rfl
  | some x =>
    simp only
    refine List.ext_getElem? fun j => ?_
    rw [List.getElem?_map, List.getElem?_map, List.getElem?_set]
    have hi := (List.getElem?_eq_some_iff.1 h).1
    by_cases e : i = j
    · subst e; rw [if_pos rfl, if_pos hi, h]; rfl
    · rw [if_neg e]
theorem setPar_parent (l : List LP) (i : Nat) (p : Int) : (setPar l i p).map LP.parent = (l.map LP.parent).set i p := by
  unfold setPar
  cases h : l[i]? with
  | none =>
    simp only
    rw [List.set_eq_of_length_le]
    rw [List.length_map]
    exact List.getElem?_eq_none_iff.1 h
  | some x =>
    simp only
    rw [List.map_set]
theorem setPar_len (l : List LP) (i : Nat) (p : Int) : (setPar l i p).length = l.length := by unfold setPar; split <;> simp
theorem setPar_blocks (v : Value) (l : List LP) (i : Nat) (p : Int) : blocksOf v (setPar l i p) = blocksOf v l := by
  unfold blocksOf setPar
  cases h : l[i]? with
  | none => rfl
  | some x =>
    simp only
    congr 1
    rw [List.flatMap_def, List.flatMap_def]
    congr 1
    refine List.ext_getElem? fun j => ?_
    rw [List.getElem?_map, List.getElem?_map, List.getElem?_set]
    have hi := (List.getElem?_eq_some_iff.1 h).1
    by_cases e : i = j
    · subst e; rw [if_pos rfl, if_pos hi, h]; rfl
    · rw [if_neg e]
theorem loopVs_setPar {l : List LP} {i : Nat} (hi : i < l.length) (p : Int) : loopVs (setPar l i p) = (loopVs l).set (i * 4 + 1) (.int .i64 p) := by
  have hx : l[i]? = some (l[i]'hi) := List.getElem?_eq_getElem hi
  refine List.ext_getElem? fun q => ?_
  have hq : q = (q / 4) * 4 + q % 4 := by omega
  have hm : q % 4 < 4 := by omega
  rw [hq, loopVs_at _ _ _ hm, List.getElem?_set]
  have hl : (loopVs l).length = l.length * 4 := loopVs_length l
  unfold setPar
  rw [hx]
  simp only
  rw [List.getElem?_set]
  by_cases e : i = q / 4
  · rw [if_pos e, if_pos hi]
    simp only
    by_cases e2 : i * 4 + 1 = q / 4 * 4 + q % 4
    · rw [if_pos e2, if_pos (by omega)]
      have e3 : q % 4 = 1 := by omega
      rw [e3]; rfl
    · rw [if_neg e2, loopVs_at _ _ _ hm, ← e, hx]
      have e3 : q % 4 = 0 ∨ q % 4 = 2 ∨ q % 4 = 3 := by omega
      rcases e3 with e3 | e3 | e3 <;> rw [e3] <;> rfl
  · rw [if_neg e, if_neg (by omega), loopVs_at _ _ _ hm]
theorem OwnLoops.setPar {W : World} {B B1 g n cap : Nat} {l : List LP} (h : OwnLoops W B B1 (.slice (some ⟨g, 0, none⟩) n cap) l) {i : Nat} (hi : i < l.length) (p : Int) :
    OwnLoops (W.setCell ⟨g, i * 4 + 1, none⟩ (.int .i64 p)) B B1 (.slice (some ⟨g, 0, none⟩) n cap) (setPar l i p) := by
  have hn : n = l.length := by rcases h.row.2 with ⟨h, _⟩ | ⟨_, _, _, h, _⟩ <;> cases h; rfl
  subst hn
  have hin := List.nodup_append.1 (show (Option.toList _ ++ _).Nodup from h.apart)
  have hne : ∀ y ∈ l, y.vm.ownBlock ≠ some g ∧ y.vb.ownBlock ≠ some g := fun y hy => by
    have h1 : g ∈ (Value.ownBlock (.slice (some ⟨g, 0, none⟩) l.length cap)).toList := by simp [Value.ownBlock]
    refine ⟨fun e => ?_, fun e => ?_⟩
    · exact hin.2.2 g h1 g (List.mem_flatMap.2 ⟨y, hy, List.mem_append.2 (.inl (by rw [e]; simp))⟩) rfl
    · exact hin.2.2 g h1 g (List.mem_flatMap.2 ⟨y, hy, List.mem_append.2 (.inr (by rw [e]; simp))⟩) rfl
  refine ⟨?_, fun y hy => ?_, ?_⟩
  · rw [setPar_len, loopVs_setPar hi]
    exact (World.ownsRow.stored h.row (i * 4 + 1) (.int .i64 p)).1
  · have key : ∃ z ∈ l, y.vm = z.vm ∧ y.vb = z.vb ∧ y.mem = z.mem ∧ y.backs = z.backs := by
      unfold Proofs.YtapjdndcnenadaaDoor.setPar at hy
      rw [List.getElem?_eq_getElem hi] at hy
      simp only at hy
      rcases List.mem_or_eq_of_mem_set hy with hy | rfl
      · exact ⟨y, hy, rfl, rfl, rfl, rfl⟩
      · exact ⟨_, List.getElem_mem hi, rfl, rfl, rfl, rfl⟩
    obtain ⟨z, hz, e1, e2, e3, e4⟩ := key
    rw [e1, e2, e3, e4]
    exact ⟨ownsRow_setCell_other (h.each z hz).1 (hne z hz).1 _, ownsRow_setCell_other (h.each z hz).2 (hne z hz).2 _⟩
  · rw [setPar_blocks]; exact h.apart
end Go.Proofs.YtapjdndcnenadaaDoor
