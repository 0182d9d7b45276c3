/- Lists of loops in memory; in how many loops an instruction lies. -/
import Derived.Test.YtapjdndcnenadaaDoorCounts
namespace Go.Proofs.YtapjdndcnenadaaDoor
open Go.RowKit

/-- A loop, as plain data; vm and vb are the slices that hold its members and its back edges. -/
structure LP where
  head : Int
  parent : Int
  vm : Value
  vb : Value
  mem : List Int
  backs : List Int
def LP.cells (x : LP) : List Value := [.int .i64 x.head, .int .i64 x.parent, x.vm, x.vb]
def loopVs (l : List LP) : List Value := l.flatMap LP.cells
theorem loopVs_length (l : List LP) : (loopVs l).length = l.length * 4 := by
  unfold loopVs
  induction l with
  | nil => rfl
  | cons x l ih => rw [List.flatMap_cons, List.length_append, ih]; simp [LP.cells]; omega
theorem loopVs_at : ∀ (l : List LP) (k j : Nat), j < 4 → (loopVs l)[k * 4 + j]? = (match l[k]? with | some x => x.cells[j]? | none => none)
  | [], k, j, _ => by simp [loopVs]
  | x :: l, 0, j, h => by
    unfold loopVs
    rw [List.flatMap_cons, List.getElem?_append_left (by simp [LP.cells]; omega)]
    simp
  | x :: l, k + 1, j, h => by
    have ih := loopVs_at l k j h
    unfold loopVs at *
    rw [List.flatMap_cons, List.getElem?_append_right (by simp [LP.cells]; omega), show (k + 1) * 4 + j - x.cells.length = k * 4 + j by simp [LP.cells]; omega, ih]
    simp
/-- v reads as a list of loops. -/
structure LoopsIn (w : World) (v : Value) (l : List LP) : Prop where
  row : SliceIn w v l.length 4 (loopVs l)
  each : ∀ x ∈ l, IntsIn w x.vm x.mem ∧ IntsIn w x.vb x.backs
theorem LoopsIn.later {w w' : World} {v : Value} {l : List LP} (h : LoopsIn w v l) (hb : Below w.heap.size w w') : LoopsIn w' v l :=
  ⟨SliceIn.later h.row hb, fun x hx => ⟨SliceIn.later (h.each x hx).1 hb, SliceIn.later (h.each x hx).2 hb⟩⟩
theorem LoopsIn.form {w : World} {v : Value} {l : List LP} (h : LoopsIn w v l) : ∃ a cap, v = .slice a l.length cap ∧ l.length ≤ maxLen ∧ (0 < l.length → ∃ b off, a = some ⟨b, off, none⟩ ∧ b < w.heap.size) := by
  obtain ⟨-, a, cap, rfl, h2, h3, h4, h5⟩ := h.row
  exact ⟨a, cap, rfl, by omega, fun h0 => by obtain ⟨b, off, e, hb, _⟩ := h5 h0; exact ⟨b, off, e, hb⟩⟩
theorem LoopsIn.at' {w : World} {b off n cap : Nat} {l : List LP} (h : LoopsIn w (.slice (some ⟨b, off, none⟩) n cap) l) {k : Nat} {x : LP} (hx : l[k]? = some x) :
    w.cell? ⟨b, off + k * 4, none⟩ = some (.int .i64 x.head) ∧ w.cell? ⟨b, off + k * 4 + 1, none⟩ = some (.int .i64 x.parent) ∧ w.cell? ⟨b, off + k * 4 + 2, none⟩ = some x.vm ∧ w.cell? ⟨b, off + k * 4 + 3, none⟩ = some x.vb := by
  obtain ⟨_, a, cap', hv, _, _, _, hc⟩ := h.row
  cases hv
  have hk : k < l.length := (List.getElem?_eq_some_iff.1 hx).1
  obtain ⟨b', off', ha, _, hc⟩ := hc (by omega)
  cases ha
  have g : ∀ j u, j < 4 → x.cells[j]? = some u → w.cell? ⟨b, off + k * 4 + j, none⟩ = some u := fun j u hj hu => by rw [Nat.add_assoc]; exact hc _ _ (by rw [loopVs_at l k j hj, hx]; exact hu)
  exact ⟨g 0 _ (by omega) rfl, g 1 _ (by omega) rfl, g 2 _ (by omega) rfl, g 3 _ (by omega) rfl⟩

/-- In how many. -/
def depthOf (l : List LP) (a : Int) : Nat := l.countP fun x => x.mem.contains a
theorem depthOf_le (l : List LP) (a : Int) : depthOf l a ≤ l.length := List.countP_le_length
theorem depth_take {l : List LP} {k : Nat} {x : LP} (h : l[k]? = some x) (a : Int) : depthOf (l.take (k + 1)) a = depthOf (l.take k) a + if x.mem.contains a then 1 else 0 := by
  unfold depthOf
  rw [List.take_add_one, h, List.countP_append]
  simp [List.countP_cons]

set_option maxRecDepth 100000 in
set_option maxHeartbeats 2000000 in
theorem depth_any (v : Value) (l : List LP) (a : Int) (w : World) (h : LoopsIn w v l) :
    Calls Tryd.prog 13 #[v, .int .i64 a] w (Gives (.int .i64 (depthOf l a : Nat)) w) := by
  obtain ⟨av, cv, rfl, hlm, hav⟩ := h.form
  have H := Lib.hid h
  obtain ⟨n, hn⟩ : ∃ n, n = l.length := ⟨_, rfl⟩
  rw [← hn] at hlm hav h ⊢
  have hn9 : n ≤ 9223372036854775807 := by unfold maxLen at hlm; omega
  have Hn := Lib.hid hn
  clear h hn hlm
  go_enter Tryd.func13, Tryd.ntmps13
  go_wp2_with fail
  go_loopw [5, 12] (fun d i wi => ∃ k : Nat, k ≤ n ∧ d = .int .i64 (depthOf (l.take k) a : Nat) ∧ i = .int .i64 (k : Int) ∧ Below w.heap.size w wi) (fun _ i _ => n - (intOf i).toNat)
  case atStart => exact ⟨0, Nat.zero_le _, rfl, rfl, Below.refl _ _⟩
  case round =>
    obtain ⟨k, hk, rfl, rfl, hb⟩ := hrel
    have hdk : depthOf (l.take k) a ≤ k := Nat.le_trans (depthOf_le _ _) (by rw [List.length_take]; omega)
    by_cases hkn : k < n
    · obtain ⟨g, off, rfl, hg⟩ := hav (by omega)
      obtain ⟨x, hx⟩ : ∃ x, l[k]? = some x := ⟨_, List.getElem?_eq_getElem (by rw [← Hn.out]; exact hkn)⟩
      have hHl := H.out.later hb
      rw [← Hn.out] at hHl
      obtain ⟨c0, c1, c2, c3⟩ := hHl.at' hx
      have hm := (hHl.each x (List.mem_of_getElem? hx)).1
      have hvb := (hHl.each x (List.mem_of_getElem? hx)).2
      obtain ⟨-, ab, cb, hvb, -⟩ := hvb
      have hdt := depth_take hx a
      have hm0 := hm
      obtain ⟨-, am, cm, hvm, -, hmm, -, ham⟩ := hm0
      have hm9 : x.mem.length ≤ 9223372036854775807 := by
        obtain ⟨-, a2, cap2, hv2, h5, h6, _⟩ := hm
        unfold maxLen at h6; omega
      obtain ⟨head, parent, vm, vb, mem, backs⟩ := x
      simp only at c0 c1 c2 c3 hm hdt hvm ham hm9 hvb
      subst hvm; subst hvb
      obtain ⟨nb, hnb⟩ : ∃ nb, nb = backs.length := ⟨_, rfl⟩
      rw [← hnb] at c3
      clear hnb
      have Hx := Lib.hid hx
      have Hm := Lib.hid hm
      have Hb := Lib.hid hb
      have Hdt := Lib.hid hdt
      obtain ⟨nm, hnm⟩ : ∃ nm, nm = mem.length := ⟨_, rfl⟩
      rw [← hnm] at c2 ham hm9
      have Hnm := Lib.hid hnm
      obtain ⟨d, hd⟩ : ∃ d, d = depthOf (l.take k) a := ⟨_, rfl⟩
      rw [← hd] at hdk ⊢
      have Hd := Lib.hid hd
      have hgw : g < wr.heap.size := Nat.lt_of_lt_of_le hg hb.size
      clear hx hm hb hdt hnm hd hHl hmm
      go_wp2_with fail
      obtain ⟨W2, hW2⟩ : ∃ W2, W2 = wr.alloc (.cells #[.int .i64 head, .int .i64 parent, .slice am nm cm, .slice ab nb cb] 40) := ⟨_, rfl⟩
      rw [← hW2]
      have hbW : Below wr.heap.size wr W2 := by rw [hW2]; exact (Below.refl _ _).alloc (Nat.le_refl _) _
      have HbW := Lib.hid hbW
      clear hW2 hbW
      go_loopw [5, 19] (fun dv i wi => ∃ j : Nat, j ≤ nm ∧ dv = .int .i64 (d : Int) ∧ i = .int .i64 (j : Int) ∧ (∀ t u, t < j → mem[t]? = some u → u ≠ a) ∧ wi = W2) (fun _ i _ => nm - (intOf i).toNat)
      case atStart => exact ⟨0, Nat.zero_le _, rfl, rfl, fun t u h => by omega, rfl⟩
      case round =>
        obtain ⟨j, hj, rfl, rfl, hno, hwr⟩ := hrel
        subst hwr
        by_cases hjn : j < nm
        · obtain ⟨gm, om, rfl, hgm, hcm⟩ := ham (by omega)
          obtain ⟨u, hu⟩ : ∃ u, mem[j]? = some u := ⟨_, List.getElem?_eq_getElem (by rw [← Hnm.out]; exact hjn)⟩
          have hcu : World.cell? _ ⟨gm, om + j, none⟩ = some (.int .i64 u) := (HbW.out.cell (p := ⟨gm, om + j, none⟩) hgm).trans (hcm j _ (by simp [intVs, hu]))
          have Hu := Lib.hid hu
          have Hno := Lib.hid hno
          clear hu hno hcm
          by_cases hua : u = a
          · have hq : (u == a) = true := by simp [hua]
            have Hc : Hid (depthOf (l.take (k + 1)) a = d + 1) := by
              show _ = _
              rw [Hdt.out, if_pos, Hd.out]
              rw [List.contains_iff_mem, ← hua]; exact List.mem_of_getElem? Hu.out
            clear hua
            go_wp2_with fail
            go_roundw
            case rel => exact ⟨k + 1, hkn, by rw [Hc.out]; go_num, by go_num, Hb.out.trans (HbW.out.mono Hb.out.size)⟩
            case measure => simp [intOf]; omega
          · have hq : (u == a) = false := by simp [hua]
            go_wp2_with fail
            go_roundw
            case rel =>
              refine ⟨j + 1, hjn, rfl, by go_num, fun t y ht hy => ?_, trivial⟩
              by_cases e : t = j
              · subst e
                rw [Hu.out] at hy
                cases hy; exact hua
              · exact Hno.out t y (by omega) hy
            case measure => simp [intOf]; omega
        · obtain rfl : nm = j := by omega
          have Hc : Hid (depthOf (l.take (k + 1)) a = d) := by
            show _ = _
            rw [Hdt.out, if_neg, Hd.out, Nat.add_zero]
            rw [List.contains_iff_mem]
            intro hm
            obtain ⟨t, ht, e⟩ := List.mem_iff_getElem.1 hm
            exact hno t a (by rw [Hnm.out]; exact ht) (by rw [List.getElem?_eq_getElem ht, e]) rfl
          clear hno hjn
          go_wp2_with fail
          go_roundw
          case rel => exact ⟨k + 1, hkn, by rw [Hc.out], by go_num, Hb.out.trans (HbW.out.mono Hb.out.size)⟩
          case measure => simp [intOf]; omega
    · obtain rfl : n = k := by omega
      have Hres : Hid (l.take n = l) := List.take_of_length_le (by rw [← Hn.out]; exact Nat.le_refl _)
      have Hb := Lib.hid hb
      clear hkn hb
      go_wp2_with fail
      go_ret
      exact ⟨by rw [Hres.out]; rfl, Hb.out⟩
end Go.Proofs.YtapjdndcnenadaaDoor
