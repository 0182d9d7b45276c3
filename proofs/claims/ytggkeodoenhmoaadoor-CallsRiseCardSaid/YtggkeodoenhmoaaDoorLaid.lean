/- From the listed table to what the walks ask of it; and from a walk to the contract that a row with a listed table asks. -/
import Derived.Test.YtggkeodoenhmoaaDoorOpenMod
import Derived.Stop.Joined
namespace Go.Proofs.YtggkeodoenhmoaaDoor
open Go.Joins Go.ChangeShapes Go.WideShapes Go.ChangeAt Go.RowKit Go.Deep

def laid2 : List (String × DataW Unit) := [("soffit/code.rows", Rows.laid_soffit_code_rows)]
theorem gRows : Tryd.prog.globalNamed "soffit/code.rows" = some 0 := by kernel_rfl
theorem tRows : (Tryd.prog.globals[0]?).map (·.type) = some 74 := by kernel_rfl
/-- The word that stands first in row i. -/
def wordAt (D : DataW Unit) (i : Nat) : List UInt8 := match D with
  | .agg l => match l[i]? with
    | some (.agg (.lit (.string s) :: _)) => s
    | _ => []
  | _ => []
theorem words_are : ∀ i : Nat, i < 20 → (wordAt Rows.laid_soffit_code_rows i = [99, 97, 108, 108] ↔ i = 19) := by decide +kernel

theorem of_laid {W : World} (h : laidMetH Tryd.prog laid2 W) : WordsIn W := by
  rw [MakeChecks.laidMetH_plain _ _ _ (by kernel_rfl)] at h
  obtain ⟨ps, ⟨g0, t0, cs0, f0, p0, q0, hg0, ht0, hv0, hd0, _, _⟩, _, _⟩ := h
  obtain rfl := Option.some.inj (gRows.symm.trans hg0)
  obtain rfl := Option.some.inj (tRows.symm.trans ht0)
  obtain ⟨xs, m1, rfl, hx1, hlen, hn, hel⟩ := DataW.trod_array Tryd.underlying74 hd0
  have c7 : Tryd.prog.cellsOf 73 = 7 := by kernel_rfl
  have cS : Tryd.prog.cellsOf 9 = 1 := by kernel_rfl
  simp only [Prod.mk.injEq] at hx1
  intro i hi
  have hxi : xs[i]? = some (xs[i]'(by omega)) := List.getElem?_eq_getElem _
  have hti := (hel i hi).trans hxi
  rw [c7] at hti
  obtain ⟨zs, n, _, hz, hzc, hzl, hg⟩ := DataW.trod_struct Tryd.underlying73 hti
  rw [c7] at hzc
  have h0 := hg 0 _ rfl
  have hz0 : zs[0]? = some (zs[0]'(by rw [hzl]; decide)) := List.getElem?_eq_getElem _
  rw [hz0] at h0
  obtain ⟨s, es, ez, _⟩ := DataW.trod_string Tryd.underlying9 h0
  refine ⟨s, ?_, ?_⟩
  · rw [World.var?_cell hg0 hv0]
    have e1 : (((cs0.toList.drop (i * 7)).take 7).drop 0).take 1 = [Value.string s] := by
      have := es
      simpa [cS] using this
    have e2 := congrArg (fun l => l[0]?) e1
    simp at e2
    rw [← Array.getElem?_toList]
    simpa using e2
  · rw [ByteArray.toList_eq, ← words_are i hi]
    have e1 : wordAt Rows.laid_soffit_code_rows i = s.data.toList := by
      have hx : Rows.laid_soffit_code_rows (H := Unit) = .agg (xs.map (·.1)) := hx1.1
      rw [hx]
      unfold wordAt
      simp only [List.getElem?_map, hxi, Option.map_some]
      rw [hz]
      cases zs with
      | nil => simp at hz0
      | cons z zs =>
        simp at ez
        simp [ez]
    rw [e1]
end Go.Proofs.YtggkeodoenhmoaaDoor
