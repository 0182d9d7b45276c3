/- The map of the functions that are called: laws for the walk. -/
import Derived.Test.YtneibcpgengdnaaNmMaps
namespace Go.Proofs.Ytneibcpgengdnaa
open Go.RowKit Go.Maps

theorem isKeyI (x : Int) : WideAt.IsKeyLit (.int .i64 x) := by simp [WideAt.IsKeyLit]
theorem Try.intKey : Keyed Try.prog 3 := int_keyed Try.underlying3
theorem hasI_put {D : DataW Unit} (hD : IsMap D) (x : Int) (d : DataW Unit) (kl : Lit) : Maps.has (D.put (.int .i64 x) d) kl = true ↔ kl = .int .i64 x ∨ Maps.has D kl = true := by
  by_cases e : kl = .int .i64 x
  · subst e; simp [has_put_same hD (isKeyI x)]
  · rw [has_put_other e]; simp [e]
def insI (S : List Int) (x : Int) : List Int := if x ∈ S then S else x :: S
theorem insI_mem (S : List Int) (x y : Int) : y ∈ insI S x ↔ y = x ∨ y ∈ S := by
  unfold insI; split
  · rename_i h; constructor
    · intro h; exact .inr h
    · rintro (rfl | h2)
      · exact h
      · exact h2
  · simp
theorem insI_nodup {S : List Int} (h : S.Nodup) (x : Int) : (insI S x).Nodup := by
  unfold insI; split
  · exact h
  · rename_i hx; exact List.nodup_cons.2 ⟨hx, h⟩
/-- Block b of w is a map of numbers to numbers: its keys S. -/
def CMap (w : World) (b : Nat) (S : List Int) : Prop :=
  ∃ (D : DataW Unit) (F : Int → Int), w.ownsMap Try.prog 3 numD b S.length D ∧ S.Nodup ∧ Maps.size D = S.length ∧ (∀ kl, Maps.has D kl = true ↔ ∃ x ∈ S, kl = .int .i64 x) ∧ ∀ y, D.atKey (.int .i64 y) (.lit (.int .i64 0)) = .lit (.int .i64 (F y))
theorem CMap.made (w : World) : CMap (w.alloc (.map #[] 0)) w.heap.size [] :=
  ⟨.map [], fun _ => 0, World.ownsMap_made w _ _ _, List.nodup_nil, rfl, fun kl => by simp [Maps.has], fun _ => rfl⟩
theorem CMap.lt {w : World} {b : Nat} {S : List Int} (h : CMap w b S) : b < w.heap.size := by obtain ⟨D, F, h, _⟩ := h; exact h.lt
theorem CMap.at_block {w w' : World} {b : Nat} {S : List Int} (h : CMap w b S) (hb : w'.heap[b]? = w.heap[b]?) : CMap w' b S := by
  obtain ⟨D, F, ⟨es, clock, hh, r2⟩, r⟩ := h
  exact ⟨D, F, ⟨es, clock, hb.trans hh, r2⟩, r⟩
theorem CMap.later {w w' : World} {b B : Nat} {S : List Int} (h : CMap w b S) (hb : Below B w w') (hB : b < B) : CMap w' b S := h.at_block (hb.block b hB)
theorem CMap.oth {T : Nat → Prop} {w w' : World} {b : Nat} {S : List Int} (h : CMap w b S) (hO : Oth T w w') (hb : ¬ T b) : CMap w' b S := h.at_block (hO.block b h.lt hb)

section
set_option maxRecDepth 100000
variable {w : World} {ops : Array Oper} {rest : List Oper} {o : Oper} {a : Act} {Q : Exit → Act → World → Prop}
theorem cm_look (hg : o.guard = none) (m x : Operand) (hop : o.op = Op.lookup 55 m x false) (b : Nat) (S : List Int) (hm : a.eval m = .map (some b)) (hown : CMap w b S) (y : Int) (hx : a.eval x = .int .i64 y)
    (hw : -9223372036854775808 ≤ y ∧ y ≤ 9223372036854775807) (hK : ∀ z, wpList Try.prog ops Q rest (a.put o.dst (.int .i64 z)) w) : wpList Try.prog ops Q (o :: rest) a w := by
  obtain ⟨D, F, h, _, _, _, hF⟩ := hown
  refine wpList_plain hg fun K' hK' => ?_
  obtain ⟨v, ps, hrun, hv⟩ := h.lookup Try.intKey Try.underlying55 (z := .int .i64 0) (by kernel_rfl) (zd := .lit (.int .i64 0)) (zp := []) rfl (keyOf_int_mk Try.underlying3 (WalkArith.wf_i64 hw))
  rw [hF y] at hv
  have e := numD_inv hv
  subst e
  unfold Oper.wp
  simp [execOp, hop, hm, hx, hrun, Result.andThen]
  exact hK' _ _ (hK _)
theorem cm_put (hg : o.guard = none) (m x v : Operand) (hop : o.op = Op.mapUpdate 55 m x v) (b : Nat) (S : List Int) (hm : a.eval m = .map (some b)) (hown : CMap w b S) (y : Int) (hx : a.eval x = .int .i64 y) (z : Int) (hv : a.eval v = .int .i64 z)
    (hy : -9223372036854775808 ≤ y ∧ y ≤ 9223372036854775807) (hl : S.length ≤ 1000000) (hK : ∀ w', CMap w' b (insI S y) → w.grownBy w' (some b) → wpList Try.prog ops Q rest (a.put o.dst undef) w') : wpList Try.prog ops Q (o :: rest) a w := by
  obtain ⟨D, F, h, hn, hs, hh, hF⟩ := hown
  refine wpList_mapUpdate_own w hg m x v _ hop 3 3 Try.intKey Try.underlying55 _ b _ D hm h (by unfold maxLen; omega) _ _ _ hx hv (keyOf_int_mk Try.underlying3 (WalkArith.wf_i64 hy)) (.lit (.int .i64 z)) [] rfl ?_
  intro w' h1 h2
  have hsz : Maps.size (D.put (.int .i64 y) (.lit (.int .i64 z))) = (insI S y).length := by
    rw [size_put (h.tidy Try.intKey), hs]
    unfold insI
    by_cases hy : y ∈ S
    · rw [if_pos ((hh _).2 ⟨y, hy, rfl⟩), if_pos hy]
    · rw [if_neg (fun h => hy (by obtain ⟨z, hz, e⟩ := (hh _).1 h; cases e; exact hz)), if_neg hy]; rfl
  refine hK w' ⟨D.put (.int .i64 y) (.lit (.int .i64 z)), fun i => if i = y then z else F i, by rw [← hsz]; exact owns_tight h1, insI_nodup hn y, hsz, fun kl => ?_, fun u => ?_⟩ h2
  · rw [hasI_put h.isMap, hh]
    constructor
    · rintro (rfl | ⟨x, hx, rfl⟩)
      · exact ⟨y, (insI_mem _ _ _).2 (.inl rfl), rfl⟩
      · exact ⟨x, (insI_mem _ _ _).2 (.inr hx), rfl⟩
    · rintro ⟨x, hx, rfl⟩
      rcases (insI_mem _ _ _).1 hx with rfl | hx
      · exact .inl rfl
      · exact .inr ⟨x, hx, rfl⟩
  · by_cases e : u = y
    · subst e; simp only [if_true]; exact atKey_put_same h.isMap (isKeyI _) _ _
    · simp only [if_neg e]; rw [atKey_put_other (by intro e1; cases e1; exact e rfl)]; exact hF u
end
end Go.Proofs.Ytneibcpgengdnaa
