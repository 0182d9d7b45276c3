/- From the listed table to what the walks ask of it: which operations write. -/
import Derived.Test.YtapjdndcnenadaaDoorWrites
import Derived.Test.YtapjdndcnenadaaDoorRows
import Derived.LaidMore
import Derived.MakeChecks
import Derived.OpenShut
import Derived.ProofKit
import Derived.Lib.SmallJoins
import Derived.Stop.Joined
namespace Go.Proofs.YtapjdndcnenadaaDoor
open Go.Joins Go.ChangeShapes Go.WideShapes Go.ChangeAt Go.RowKit Go.Deep

def laid2 : List (String × DataW Unit) := [("soffit/code.rows", Rows.laid_soffit_code_rows)]
theorem gRows : Tryd.prog.globalNamed "soffit/code.rows" = some 0 := by kernel_rfl
theorem tRows : (Tryd.prog.globals[0]?).map (·.type) = some 90 := by kernel_rfl
/-- Whether row i's last bit stands. -/
def bitAt (D : DataW Unit) (i : Nat) : Option Bool := match D with
  | .agg l => match (l[i]? : Option (DataW Unit)) with
    | some (.agg r) => match (r[6]? : Option (DataW Unit)) with
      | some (.lit (.bool b)) => some b
      | _ => none
    | _ => none
  | _ => none
theorem bits_are : ∀ i : Nat, i < 20 → bitAt Rows.laid_soffit_code_rows i = some (writesB i) := by decide +kernel

theorem of_laid {W : World} (h : laidMetH Tryd.prog laid2 W) : WritesIn W := by
  rw [MakeChecks.laidMetH_plain _ _ _ (by kernel_rfl)] at h
  obtain ⟨ps, ⟨g0, t0, cs0, f0, p0, q0, hg0, ht0, hv0, hd0, _, _⟩, _, _⟩ := h
  obtain rfl := Option.some.inj (gRows.symm.trans hg0)
  obtain rfl := Option.some.inj (tRows.symm.trans ht0)
  obtain ⟨xs, m1, rfl, hx1, hlen, hn, hel⟩ := DataW.trod_array Tryd.underlying90 hd0
  have c7 : Tryd.prog.cellsOf 89 = 7 := by kernel_rfl
  have cB : Tryd.prog.cellsOf 4 = 1 := by kernel_rfl
  simp only [Prod.mk.injEq] at hx1
  intro i hi
  have hxi : xs[i]? = some (xs[i]'(by omega)) := List.getElem?_eq_getElem _
  have hti := (hel i hi).trans hxi
  rw [c7] at hti
  obtain ⟨zs, n, _, hz, hzc, hzl, hg⟩ := DataW.trod_struct Tryd.underlying89 hti
  rw [c7] at hzc
  have h6 := hg 6 _ rfl
  have hz6 : zs[6]? = some (zs[6]'(by rw [hzl]; decide)) := List.getElem?_eq_getElem _
  rw [hz6] at h6
  obtain ⟨b, es, ez⟩ := DataW.trod_bool Tryd.underlying4 h6
  have hb : bitAt Rows.laid_soffit_code_rows i = some b := by
    have hx : Rows.laid_soffit_code_rows (H := Unit) = .agg (xs.map (·.1)) := hx1.1
    rw [hx]
    unfold bitAt
    simp only [List.getElem?_map, hxi, Option.map_some]
    rw [hz]
    simp only [List.getElem?_map, hz6, Option.map_some, ez]
  rw [bits_are i hi] at hb
  obtain rfl := Option.some.inj hb
  rw [World.var?_cell hg0 hv0]
  have e1 : (((cs0.toList.drop (i * 7)).take 7).drop 6).take 1 = [Value.bool (writesB i)] := by
    have := es
    simpa [cB] using this
  have e2 := congrArg (fun l => l[0]?) e1
  simp at e2
  rw [← Array.getElem?_toList]
  simpa using e2
end Go.Proofs.YtapjdndcnenadaaDoor
