/- Maps of ints to ints, sets and lists by their keys: laws for the walk. -/
import Derived.Test.YtapjdndcnenadaaDoorGraph
namespace Go.Proofs.YtapjdndcnenadaaDoor
open Go.RowKit Go.Maps

theorem nodup_subL : ∀ (a b : List Int), a.Nodup → (∀ x ∈ a, x ∈ b) → a.length ≤ b.length
  | [], _, _, _ => Nat.zero_le _
  | x :: a, b, h1, h2 => by
    have hx := h2 x (by simp)
    have := nodup_subL a (b.erase x) (List.nodup_cons.1 h1).2 (fun y hy => by
      have hne : y ≠ x := fun e => (List.nodup_cons.1 h1).1 (e ▸ hy)
      exact (List.mem_erase_of_ne hne).2 (h2 y (by simp [hy])))
    rw [List.length_erase_of_mem hx] at this
    have := List.length_pos_of_mem hx
    simp; omega
theorem set_small {n : Nat} {S : List Int} (h1 : S.Nodup) (h2 : ∀ x ∈ S, 0 ≤ x ∧ x < n) : S.length ≤ n := by
  have := nodup_subL S ((List.range n).map Int.ofNat) h1 (fun x hx => List.mem_map.2 ⟨x.toNat, List.mem_range.2 (by have := h2 x hx; omega), by have := h2 x hx; simp; omega⟩)
  simpa using this
theorem has_iff_of_not {D : DataW Unit} {y : Int} {v : Value} (h : sliceD v = some (D.atKey (.int .i64 y) .nil, [])) (hv : v ≠ nilV) : Maps.has D (.int .i64 y) = true := by
  cases hh : Maps.has D (.int .i64 y)
  · rw [atKey_of_not_has hh] at h
    exact absurd (sliceD_inj h sliceD_nil) hv
  · rfl

/-! ### a map of ints to ints -/
def intD : Value → Option (DataW Unit × List MemPlace)
  | .int .i64 x => some (.lit (.int .i64 x), [])
  | _ => none
theorem intD_inv {v : Value} {x : Int} {p : List MemPlace} (h : intD v = some (.lit (.int .i64 x), p)) : v = .int .i64 x := by
  unfold intD at h
  split at h
  · simp at h; rw [h.1]
  · cases h
/-- Block b of w is a map of ints to ints, F's; its keys lie below 1024. -/
def IMap (w : World) (b : Nat) (F : Int → Int) : Prop :=
  ∃ (D : DataW Unit) (S : List Int), w.ownsMap Tryd.prog 3 intD b S.length D ∧ S.Nodup ∧ Maps.size D = S.length ∧ (∀ kl, Maps.has D kl = true ↔ ∃ x ∈ S, kl = .int .i64 x) ∧ (∀ x ∈ S, 0 ≤ x ∧ x < 1024) ∧ ∀ y, D.atKey (.int .i64 y) (.lit (.int .i64 0)) = .lit (.int .i64 (F y))
theorem IMap.made (w : World) : IMap (w.alloc (.map #[] 0)) w.heap.size (fun _ => 0) :=
  ⟨.map [], [], World.ownsMap_made w _ _ _, List.nodup_nil, rfl, fun kl => by simp [Maps.has], fun x h => absurd h (by simp), fun _ => rfl⟩
theorem IMap.lt {w : World} {b : Nat} {F : Int → Int} (h : IMap w b F) : b < w.heap.size := by obtain ⟨D, S, h, _⟩ := h; exact h.lt
theorem IMap.at_block {w w' : World} {b : Nat} {F : Int → Int} (h : IMap w b F) (hb : w'.heap[b]? = w.heap[b]?) : IMap w' b F := by
  obtain ⟨D, S, ⟨es, clock, hh, r2⟩, r⟩ := h
  exact ⟨D, S, ⟨es, clock, hb.trans hh, r2⟩, r⟩
theorem IMap.later {w w' : World} {b B : Nat} {F : Int → Int} (h : IMap w b F) (hb : Below B w w') (hB : b < B) : IMap w' b F := h.at_block (hb.block b hB)

section
variable {w : World} {ops : Array Oper} {rest : List Oper} {o : Oper} {a : Act} {Q : Exit → Act → World → Prop}
theorem im_look (hg : o.guard = none) (m x : Operand) (hop : o.op = Op.lookup 81 m x false) (b : Nat) (F : Int → Int) (hm : a.eval m = .map (some b)) (hown : IMap w b F) (y : Int) (hx : a.eval x = .int .i64 y)
    (hw : -9223372036854775808 ≤ y ∧ y ≤ 9223372036854775807) (z : Int) (hz : F y = z) (hK : wpList Tryd.prog ops Q rest (a.put o.dst (.int .i64 z)) w) : wpList Tryd.prog ops Q (o :: rest) a w := by
  obtain ⟨D, S, h, _, _, _, _, hF⟩ := hown
  refine wpList_plain hg fun K' hK' => ?_
  obtain ⟨v, ps, hrun, hv⟩ := h.lookup Tryd.intKey Tryd.underlying81 (z := .int .i64 0) (by kernel_rfl) (zd := .lit (.int .i64 0)) (zp := []) rfl (keyOf_int_mk Tryd.underlying3 (WalkArith.wf_i64 hw))
  rw [hF y, hz] at hv
  have e := intD_inv hv
  subst e
  unfold Oper.wp
  simp [execOp, hop, hm, hx, hrun, Result.andThen]
  exact hK' _ _ hK
theorem im_put (hg : o.guard = none) (m x v : Operand) (hop : o.op = Op.mapUpdate 81 m x v) (b : Nat) (F : Int → Int) (hm : a.eval m = .map (some b)) (hown : IMap w b F) (y : Int) (hx : a.eval x = .int .i64 y) (z : Int) (hv : a.eval v = .int .i64 z)
    (hy : 0 ≤ y ∧ y < 1024) (hK : ∀ w', IMap w' b (fun i => if i = y then z else F i) → w.grownBy w' (some b) → wpList Tryd.prog ops Q rest (a.put o.dst undef) w') : wpList Tryd.prog ops Q (o :: rest) a w := by
  obtain ⟨D, S, h, hn, hs, hh, hr, hF⟩ := hown
  have hSl : S.length ≤ 1024 := set_small hn hr
  refine wpList_mapUpdate_own w hg m x v _ hop 3 3 Tryd.intKey Tryd.underlying81 _ b _ D hm h (by unfold maxLen; omega) _ _ _ hx hv (keyOf_int_mk Tryd.underlying3 (WalkArith.wf_i64 (by omega))) (.lit (.int .i64 z)) [] rfl ?_
  intro w' h1 h2
  have hsz : Maps.size (D.put (.int .i64 y) (.lit (.int .i64 z))) = (insL S y).length := by
    rw [size_put (h.tidy Tryd.intKey), hs]
    unfold insL
    by_cases hy : y ∈ S
    · rw [if_pos ((hh _).2 ⟨y, hy, rfl⟩), if_pos hy]
    · rw [if_neg (fun h => hy (by obtain ⟨z, hz, e⟩ := (hh _).1 h; cases e; exact hz)), if_neg hy]; rfl
  refine hK w' ⟨D.put (.int .i64 y) (.lit (.int .i64 z)), insL S y, by rw [← hsz]; exact owns_tight h1, insL_nodup hn y, hsz, fun kl => ?_, fun u hu => ?_, fun u => ?_⟩ h2
  · rw [has_put_iff h.isMap, hh]
    constructor
    · rintro (rfl | ⟨x, hx, rfl⟩)
      · exact ⟨y, (insL_mem _ _ _).2 (.inl rfl), rfl⟩
      · exact ⟨x, (insL_mem _ _ _).2 (.inr hx), rfl⟩
    · rintro ⟨x, hx, rfl⟩
      rcases (insL_mem _ _ _).1 hx with rfl | hx
      · exact .inl rfl
      · exact .inr ⟨x, hx, rfl⟩
  · rcases (insL_mem _ _ _).1 hu with rfl | hu
    · exact hy
    · exact hr u hu
  · by_cases e : u = y
    · subst e; simp only [if_true]; exact atKey_put_same h.isMap (isKeyInt _) _ _
    · simp only [if_neg e]; rw [atKey_put_other (by intro e1; cases e1; exact e rfl)]; exact hF u

/-! ### lists by their keys -/
theorem gm_look (hg : o.guard = none) (m x : Operand) (hop : o.op = Op.lookup 57 m x false) (b n : Nat) (V : Int → Value) (hm : a.eval m = .map (some b)) (hown : GMap w b n V) (y : Int) (hx : a.eval x = .int .i64 y)
    (hw : -9223372036854775808 ≤ y ∧ y ≤ 9223372036854775807) (hK : wpList Tryd.prog ops Q rest (a.put o.dst (V y)) w) : wpList Tryd.prog ops Q (o :: rest) a w := by
  refine wpList_plain hg fun K' hK' => ?_
  have hrun := hown.look hw
  unfold Oper.wp
  simp [execOp, hop, hm, hx, hrun, Result.andThen]
  exact hK' _ _ hK

def GRange (w : World) (b r n : Nat) (V : Int → Value) (left : Lit → Bool) (cnt : Nat) : Prop :=
  ∃ D : DataW Unit, w.ranges Tryd.prog 3 sliceD b r n D left cnt ∧ (∀ y, sliceD (V y) = some (D.atKey (.int .i64 y) .nil, [])) ∧ ∀ y, Maps.has D (.int .i64 y) = true → PosV (V y)
theorem GRange.left_eq {w : World} {b r n cnt : Nat} {V : Int → Value} {left : Lit → Bool} (h : GRange w b r n V left cnt) : w.rangeLeft b r = cnt := by
  obtain ⟨D, h, hw⟩ := h; exact h.left_eq
theorem GRange.kept {w w' : World} {b r n cnt : Nat} {V : Int → Value} {left : Lit → Bool} {row : Option Nat} (h : GRange w b r n V left cnt) (hg : w.grownBy w' row) (hb : some b ≠ row) (hr : some r ≠ row) : GRange w' b r n V left cnt := by
  obtain ⟨D, h, hw⟩ := h; exact ⟨D, h.kept hg hb hr, hw⟩
theorem gm_range (hg : o.guard = none) (m : Operand) (hop : o.op = Op.range 57 m) (b n : Nat) (V : Int → Value) (hm : a.eval m = .map (some b)) (hown : GMap w b n V)
    (hK : ∀ w' left cnt, GRange w' b w.heap.size n V left cnt → (∀ y, V y ≠ nilV → left (.int .i64 y) = true) → w.grownBy w' none → w'.heap.size = w.heap.size + 1 → wpList Tryd.prog ops Q rest (a.put o.dst (.pointer (some ⟨w.heap.size, 0, none⟩))) w') :
    wpList Tryd.prog ops Q (o :: rest) a w := by
  obtain ⟨D, h, hv, hk⟩ := hown
  refine wpList_range_own w hg m _ hop 3 38 Tryd.intKey Tryd.underlying57 _ b _ D hm h ?_
  intro w' h1 h2 h3
  exact hK w' _ _ ⟨D, h1, hv, hk⟩ (fun y hy => has_iff_of_not (hv y) hy) h2 h3
theorem gm_next (hg : o.guard = none) (it : Operand) (hop : o.op = Op.next it false) (b r n : Nat) (V : Int → Value) (left : Lit → Bool) (cnt : Nat) (hit : a.eval it = .pointer (some ⟨r, 0, none⟩)) (h : GRange w b r n V left cnt)
    (hDone : (∀ kl, left kl = false) → wpList Tryd.prog ops Q rest (a.put o.dst (.tuple #[.bool false])) w)
    (hMore : ∀ (x : Int) (w' : World) (cnt' : Nat), (-9223372036854775808 ≤ x ∧ x ≤ 9223372036854775807) → PosV (V x) → left (.int .i64 x) = true → GRange w' b r n V (fun z => left z && !z.sameKey (.int .i64 x)) cnt' → cnt' < cnt →
      w.grownBy w' (some r) → w'.heap.size = w.heap.size → (Instr.entry (.pointer (some ⟨r, 0, none⟩))).run Tryd.prog w' = .ok (.tuple #[.int .i64 x, V x]) w' → wpList Tryd.prog ops Q rest (a.put o.dst (.tuple #[.bool true, .int .i64 x, V x])) w') :
    wpList Tryd.prog ops Q (o :: rest) a w := by
  obtain ⟨D, h, hv, hk⟩ := h
  refine wpList_next_ranges w hg it hop 3 Tryd.intKey sliceD (Value.int .i64) (fun v : Value => v) (fun key kl hkey => by obtain ⟨x, rfl, _⟩ := Maps.keyOf_int_inv Tryd.underlying3 hkey; exact ⟨x, rfl⟩) (fun v y hv => ⟨v, rfl⟩) b r n D left cnt hit h (fun _ hl => hDone hl) ?_
  intro x c kl y w' cnt' hkey hlk hcv hat hrg hlt hgr hsz hen
  obtain ⟨x', ex, rfl, hwx⟩ := Maps.keyOf_int_inv Tryd.underlying3 hkey
  cases ex
  have h1 := hv x
  rw [hat] at h1
  have e : c = V x := by
    obtain ⟨y1, y2⟩ := y
    have := (sliceD_inv hcv).1
    subst this
    exact sliceD_inj hcv h1
  subst e
  exact hMore x w' cnt' (wf_bounds hwx) (hk x (has_true_of_atKey hat)) hlk ⟨D, hrg, hv, hk⟩ hlt hgr hsz hen

/-! ### a set's members in any order -/
def SRange (w : World) (b r : Nat) (S : List Int) (left : Lit → Bool) (cnt : Nat) : Prop :=
  ∃ D : DataW Unit, w.ranges Tryd.prog 3 unitElem b r S.length D left cnt ∧ ∀ kl, Maps.has D kl = true ↔ ∃ x ∈ S, kl = .int .i64 x
theorem SRange.left_eq {w : World} {b r cnt : Nat} {S : List Int} {left : Lit → Bool} (h : SRange w b r S left cnt) : w.rangeLeft b r = cnt := by
  obtain ⟨D, h, hw⟩ := h; exact h.left_eq
theorem SRange.kept {w w' : World} {b r cnt : Nat} {S : List Int} {left : Lit → Bool} {row : Option Nat} (h : SRange w b r S left cnt) (hg : w.grownBy w' row) (hb : some b ≠ row) (hr : some r ≠ row) : SRange w' b r S left cnt := by
  obtain ⟨D, h, hw⟩ := h; exact ⟨D, h.kept hg hb hr, hw⟩
theorem set_range (hg : o.guard = none) (m : Operand) (hop : o.op = Op.range 63 m) (b : Nat) (S : List Int) (hm : a.eval m = .map (some b)) (hown : SetAt w b S)
    (hK : ∀ w' left cnt, SRange w' b w.heap.size S left cnt → (∀ y ∈ S, left (.int .i64 y) = true) → w.grownBy w' none → w'.heap.size = w.heap.size + 1 → wpList Tryd.prog ops Q rest (a.put o.dst (.pointer (some ⟨w.heap.size, 0, none⟩))) w') :
    wpList Tryd.prog ops Q (o :: rest) a w := by
  obtain ⟨D, h, _, _, hh⟩ := hown
  refine wpList_range_own w hg m _ hop 3 64 Tryd.intKey Tryd.underlying63 _ b _ D hm h ?_
  intro w' h1 h2 h3
  exact hK w' _ _ ⟨D, h1, hh⟩ (fun y hy => (hh _).2 ⟨y, hy, rfl⟩) h2 h3
theorem set_next (hg : o.guard = none) (it : Operand) (hop : o.op = Op.next it false) (b r : Nat) (S : List Int) (left : Lit → Bool) (cnt : Nat) (hit : a.eval it = .pointer (some ⟨r, 0, none⟩)) (h : SRange w b r S left cnt)
    (hDone : (∀ kl, left kl = false) → wpList Tryd.prog ops Q rest (a.put o.dst (.tuple #[.bool false])) w)
    (hMore : ∀ (x : Int) (v : Value) (w' : World) (cnt' : Nat), x ∈ S → left (.int .i64 x) = true → SRange w' b r S (fun z => left z && !z.sameKey (.int .i64 x)) cnt' → cnt' < cnt →
      w.grownBy w' (some r) → w'.heap.size = w.heap.size → (Instr.entry (.pointer (some ⟨r, 0, none⟩))).run Tryd.prog w' = .ok (.tuple #[.int .i64 x, v]) w' → wpList Tryd.prog ops Q rest (a.put o.dst (.tuple #[.bool true, .int .i64 x, v])) w') :
    wpList Tryd.prog ops Q (o :: rest) a w := by
  obtain ⟨D, h, hh⟩ := h
  refine wpList_next_ranges w hg it hop 3 Tryd.intKey unitElem (Value.int .i64) (fun v : Value => v) (fun key kl hkey => by obtain ⟨x, rfl, _⟩ := Maps.keyOf_int_inv Tryd.underlying3 hkey; exact ⟨x, rfl⟩) (fun v y hv => ⟨v, rfl⟩) b r S.length D left cnt hit h (fun _ hl => hDone hl) ?_
  intro x c kl y w' cnt' hkey hlk hcv hat hrg hlt hgr hsz hen
  obtain ⟨x', ex, rfl, hwx⟩ := Maps.keyOf_int_inv Tryd.underlying3 hkey
  cases ex
  obtain ⟨z, hz, ez⟩ := (hh _).1 (has_true_of_atKey hat)
  cases ez
  exact hMore x c w' cnt' hz hlk ⟨D, hrg, hh⟩ hlt hgr hsz hen
end
theorem strike_iff {left : Lit → Bool} {x y : Int} : (fun z : Lit => left z && !z.sameKey (.int .i64 x)) (.int .i64 y) = true ↔ left (.int .i64 y) = true ∧ y ≠ x := by
  simp only [Bool.and_eq_true, Bool.not_eq_true']
  constructor
  · rintro ⟨h1, h2⟩
    exact ⟨h1, fun e => by rw [e, WideAt.sameKey_self (isKeyInt x)] at h2; cases h2⟩
  · rintro ⟨h1, h2⟩
    exact ⟨h1, Maps.sameKey_ne (by intro h; cases h; exact h2 rfl)⟩
end Go.Proofs.YtapjdndcnenadaaDoor
