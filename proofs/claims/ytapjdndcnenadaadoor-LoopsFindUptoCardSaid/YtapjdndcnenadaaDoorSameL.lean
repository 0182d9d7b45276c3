/- The statements' own comparisons of lists: true just if the lists are the same. -/
import Derived.Test.YtapjdndcnenadaaDoorBase
namespace Go.Proofs.YtapjdndcnenadaaDoor
open Go.RowKit

theorem IntsIn.cell {w : World} {a : Option Addr} {n cap : Nat} {l : List Int} (h : IntsIn w (.slice a n cap) l) {k : Nat} (hk : k < l.length) :
    ∃ b off, a = some ⟨b, off, none⟩ ∧ b < w.heap.size ∧ w.cell? ⟨b, off + k, none⟩ = some (.int .i64 (l.getD k 0)) := by
  obtain ⟨_, a', cap', hv, _, _, _, hc⟩ := h
  cases hv
  obtain ⟨b, off, rfl, hb, hc⟩ := hc (by omega)
  exact ⟨b, off, rfl, hb, hc k _ (by simp [intVs, List.getD, List.getElem?_eq_getElem hk])⟩

theorem BoolsIn.cell {w : World} {a : Option Addr} {n cap : Nat} {l : List Bool} (h : BoolsIn w (.slice a n cap) l) {k : Nat} (hk : k < l.length) :
    ∃ b off, a = some ⟨b, off, none⟩ ∧ b < w.heap.size ∧ w.cell? ⟨b, off + k, none⟩ = some (.bool (l.getD k false)) := by
  obtain ⟨_, a', cap', hv, _, _, _, hc⟩ := h
  cases hv
  obtain ⟨b, off, rfl, hb, hc⟩ := hc (by omega)
  exact ⟨b, off, rfl, hb, hc k _ (by simp [boolVs, List.getD, List.getElem?_eq_getElem hk])⟩

theorem bne_not : ∀ y z : Bool, (y != z) = true → y = !z := by decide
theorem take_eq_succ {α : Type} [Inhabited α] {a b : List α} {j : Nat} (h : a.take j = b.take j) (ha : j < a.length) (hb : j < b.length) (d : α) (he : a.getD j d = b.getD j d) : a.take (j + 1) = b.take (j + 1) := by
  rw [List.take_succ_eq_append_getElem ha, List.take_succ_eq_append_getElem hb, h]
  simp [List.getD, ha, hb] at he
  rw [he]

theorem take_all {α : Type} {a b : List α} (h : a.take a.length = b.take a.length) (hl : a.length = b.length) : a = b := by
  rw [List.take_length, hl, List.take_length] at h; exact h

end Go.Proofs.YtapjdndcnenadaaDoor
