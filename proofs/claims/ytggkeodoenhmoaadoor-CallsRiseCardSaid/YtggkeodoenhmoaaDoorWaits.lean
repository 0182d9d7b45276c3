/- A map of ints to sets, of the call's own: laws for the walk. -/
import Derived.Test.YtggkeodoenhmoaaDoorLeads
namespace Go.Proofs.YtggkeodoenhmoaaDoor
open Go.RowKit Go.Maps Go.WideShapes

/-- A set as the element of a map: its block alone. -/
def ptrElem : Value → Option (DataW Unit × List MemPlace)
  | .map none => some (.nil, [])
  | .map (some b) => some (.lit (.int .i64 (b : Int)), [])
  | _ => none
theorem ptrElem_inv {v : Value} {y : DataW Unit × List MemPlace} (h : ptrElem v = some y) : ∃ c : Option Nat, v = .map c := by
  cases v <;> simp [ptrElem] at h
  rename_i c
  exact ⟨c, rfl⟩
theorem ptrElem_lit {v : Value} {c : Nat} {ps : List MemPlace} (h : ptrElem v = some (.lit (.int .i64 (c : Int)), ps)) : v = .map (some c) := by
  obtain ⟨o, rfl⟩ := ptrElem_inv h
  cases o with
  | none => simp [ptrElem] at h
  | some b => simp [ptrElem] at h; rw [show b = c by omega]

/-- What the map holds: the sets of those that are not among d. -/
structure WM (D : DataW Unit) (cs : List Nat) (d : List Int) : Prop where
  keys : ∀ kl, Maps.has D kl = true ↔ ∃ x : Nat, x < cs.length ∧ ¬ (x : Int) ∈ d ∧ kl = .int .i64 (x : Int)
  at_ : ∀ (x c : Nat), cs[x]? = some c → ¬ (x : Int) ∈ d → ∀ zd, D.atKey (.int .i64 (x : Int)) zd = .lit (.int .i64 (c : Int))
def WMap (w : World) (bw : Nat) (cs : List Nat) (d : List Int) : Prop := ∃ D : DataW Unit, w.ownsMap Tryd.prog 3 ptrElem bw cs.length D ∧ WM D cs d
def WRange (w : World) (bw r : Nat) (cs : List Nat) (d : List Int) (left : Lit → Bool) (cnt : Nat) : Prop := ∃ D : DataW Unit, w.ranges Tryd.prog 3 ptrElem bw r cs.length D left cnt ∧ WM D cs d
theorem WMap.made (w : World) : WMap (w.alloc (.map #[] 0)) w.heap.size [] [] := ⟨.map [], World.ownsMap_made w _ _ _, fun kl => by simp [Maps.has], fun x c h => by simp at h⟩
theorem WMap.lt {w : World} {bw : Nat} {cs : List Nat} {d : List Int} (h : WMap w bw cs d) : bw < w.heap.size := by obtain ⟨D, h, _⟩ := h; exact h.lt
theorem WMap.at_block {w w' : World} {bw : Nat} {cs : List Nat} {d : List Int} (h : WMap w bw cs d) (hb : w'.heap[bw]? = w.heap[bw]?) : WMap w' bw cs d := by
  obtain ⟨D, ⟨es, clock, hh, r⟩, hw⟩ := h
  exact ⟨D, ⟨es, clock, hb.trans hh, r⟩, hw⟩
theorem WRange.map {w : World} {bw r cnt : Nat} {cs : List Nat} {d : List Int} {left : Lit → Bool} (h : WRange w bw r cs d left cnt) : WMap w bw cs d := by
  obtain ⟨D, h, hw⟩ := h; exact ⟨D, h.owns, hw⟩
theorem WRange.left_eq {w : World} {bw r cnt : Nat} {cs : List Nat} {d : List Int} {left : Lit → Bool} (h : WRange w bw r cs d left cnt) : w.rangeLeft bw r = cnt := by
  obtain ⟨D, h, hw⟩ := h; exact h.left_eq
theorem WRange.kept {w w' : World} {bw r cnt : Nat} {cs : List Nat} {d : List Int} {left : Lit → Bool} {row : Option Nat} (h : WRange w bw r cs d left cnt) (hg : w.grownBy w' row) (hb : some bw ≠ row) (hr : some r ≠ row) : WRange w' bw r cs d left cnt := by
  obtain ⟨D, h, hw⟩ := h; exact ⟨D, h.kept hg hb hr, hw⟩

theorem size_zero {w : World} {P : Program} {k : TypeId} {R : Value → Option (DataW Unit × List MemPlace)} {b n : Nat} {D : DataW Unit} (h : w.ownsMap P k R b n D) (K : Keyed P k) : Maps.size D = 0 ↔ ∀ kl, Maps.has D kl = false := by
  obtain ⟨es, rfl, _, hk⟩ := h.entries K
  constructor
  · intro h0 kl
    have : es = [] := List.eq_nil_of_length_eq_zero h0
    subst this; rfl
  · intro hf
    cases es with
    | nil => rfl
    | cons p es =>
      have := hf p.1
      rw [has_eq] at this
      simp [WideAt.sameKey_self (hk p (by simp))] at this

section
variable {w : World} {ops : Array Oper} {rest : List Oper} {o : Oper} {a : Act} {Q : Exit → Act → World → Prop}

theorem wm_put (hg : o.guard = none) (m x v : Operand) (hop : o.op = Op.mapUpdate 62 m x v) (bw : Nat) (cs : List Nat) (hm : a.eval m = .map (some bw)) (hown : WMap w bw cs []) (c f : Nat) (hf : cs.length = f) (hx : a.eval x = .int .i64 (f : Int)) (hv : a.eval v = .map (some c))
    (hl : f ≤ 1000000) (hK : ∀ w', WMap w' bw (cs ++ [c]) [] → w.grownBy w' (some bw) → wpList Tryd.prog ops Q rest (a.put o.dst undef) w') : wpList Tryd.prog ops Q (o :: rest) a w := by
  obtain ⟨D, h, hw⟩ := hown
  refine wpList_mapUpdate_own w hg m x v _ hop 3 47 Tryd.intKey Tryd.underlying62 _ bw _ D hm h (by unfold maxLen; omega) _ _ _ hx hv (keyOf_int_mk Tryd.underlying3 (WalkArith.wf_i64 (by omega))) (.lit (.int .i64 (c : Int))) [] rfl ?_
  intro w' h1 h2
  refine hK w' ⟨_, by simpa using h1, ⟨fun kl => ?_, fun y e hy _ zd => ?_⟩⟩ h2
  · rw [has_put_iff h.isMap, hw.keys]
    constructor
    · rintro (rfl | ⟨y, hy, _, rfl⟩)
      · exact ⟨f, by simp; omega, by simp, rfl⟩
      · exact ⟨y, by simp; omega, by simp, rfl⟩
    · rintro ⟨y, hy, _, rfl⟩
      simp at hy
      by_cases hyf : y = f
      · subst hyf; exact .inl rfl
      · exact .inr ⟨y, by omega, by simp, rfl⟩
  · by_cases hyf : y = f
    · subst hyf
      rw [List.getElem?_append_right (by omega), hf, Nat.sub_self] at hy
      have e1 : c = e := by simpa using hy
      subst e1
      exact atKey_put_same h.isMap (isKeyInt _) _ _
    · have hlt : y < cs.length := by have := (List.getElem?_eq_some_iff.1 hy).1; simp at this; omega
      rw [List.getElem?_append_left hlt] at hy
      rw [atKey_put_other (by intro e1; cases e1; exact hyf rfl)]
      exact hw.at_ y e hy (by simp) zd

theorem wm_look (hg : o.guard = none) (m x : Operand) (hop : o.op = Op.lookup 62 m x false) (bw : Nat) (cs : List Nat) (d : List Int) (hm : a.eval m = .map (some bw)) (hown : WMap w bw cs d) (c f : Nat) (hx : a.eval x = .int .i64 (f : Int)) (hc : cs[f]? = some c) (hd : ¬ (f : Int) ∈ d)
    (hl : f ≤ 1000000) (hK : wpList Tryd.prog ops Q rest (a.put o.dst (.map (some c))) w) : wpList Tryd.prog ops Q (o :: rest) a w := by
  obtain ⟨D, h, hw⟩ := hown
  refine wpList_plain hg fun K' hK' => ?_
  obtain ⟨v, ps, hrun, hv⟩ := h.lookup Tryd.intKey Tryd.underlying62 (z := .map none) (by kernel_rfl) (zd := .nil) (zp := []) rfl (keyOf_int_mk Tryd.underlying3 (WalkArith.wf_i64 (by omega : -9223372036854775808 ≤ (f : Int) ∧ (f : Int) ≤ 9223372036854775807)))
  rw [hw.at_ f c hc hd] at hv
  have e := ptrElem_lit hv
  subst e
  unfold Oper.wp
  simp [execOp, hop, hm, hx, hrun, Result.andThen]
  exact hK' _ _ hK

theorem wm_len (hg : o.guard = none) (m : Operand) (hop : o.op = Op.call { callee := Callee.builtin Builtin.len, args := #[m], argTypes := #[62] }) (bw : Nat) (cs : List Nat) (d : List Int) (hm : a.eval m = .map (some bw)) (hown : WMap w bw cs d)
    (hK : ∀ n : Nat, n ≤ cs.length → (n = 0 ↔ ∀ x : Nat, x < cs.length → (x : Int) ∈ d) → wpList Tryd.prog ops Q rest (a.put o.dst (.int .i64 (n : Int))) w) : wpList Tryd.prog ops Q (o :: rest) a w := by
  obtain ⟨D, h, hw⟩ := hown
  refine wpList_len_own w hg m _ hop 3 47 Tryd.underlying62 _ bw _ D hm h (hK _ h.size_le ?_)
  rw [size_zero h Tryd.intKey]
  constructor
  · intro hf x hx
    apply Classical.byContradiction
    intro hn
    have := (hw.keys _).2 ⟨x, hx, hn, rfl⟩
    rw [hf] at this; cases this
  · intro hall kl
    cases hh : Maps.has D kl
    · rfl
    · obtain ⟨x, hx, hn, _⟩ := (hw.keys kl).1 hh
      exact absurd (hall x hx) hn

theorem wm_del (hg : o.guard = none) (m x : Operand) (hop : o.op = Op.call { callee := Callee.builtin Builtin.delete, args := #[m, x], argTypes := #[62, 3] }) (bw : Nat) (cs : List Nat) (d : List Int) (hm : a.eval m = .map (some bw)) (hown : WMap w bw cs d) (y : Int) (hx : a.eval x = .int .i64 y)
    (hw : -9223372036854775808 ≤ y ∧ y ≤ 9223372036854775807) (hK : ∀ w', WMap w' bw cs (d ++ [y]) → w.grownBy w' (some bw) → wpList Tryd.prog ops Q rest (a.put o.dst (.tuple #[])) w') : wpList Tryd.prog ops Q (o :: rest) a w := by
  obtain ⟨D, h, hm'⟩ := hown
  refine wpList_delete_own w hg m x _ _ hop 47 Tryd.intKey Tryd.underlying62 _ bw _ D hm h _ _ hx (keyOf_int_mk Tryd.underlying3 (WalkArith.wf_i64 hw)) ?_
  intro w' h1 h2
  refine hK w' ⟨_, h1, ⟨fun kl => ?_, fun z e hz hd zd => ?_⟩⟩ h2.grown
  · rw [has_del_iff, hm'.keys]
    constructor
    · rintro ⟨hne, z, hz, hd, rfl⟩
      exact ⟨z, hz, by simp; exact ⟨hd, fun e => hne (by rw [e])⟩, rfl⟩
    · rintro ⟨z, hz, hd, rfl⟩
      simp at hd
      exact ⟨fun e => by cases e; exact hd.2 rfl, z, hz, hd.1, rfl⟩
  · simp at hd
    rw [atKey_del_other (by intro e1; cases e1; exact hd.2 rfl)]
    exact hm'.at_ z e hz hd.1 zd

theorem wm_range (hg : o.guard = none) (m : Operand) (hop : o.op = Op.range 62 m) (bw : Nat) (cs : List Nat) (d : List Int) (hm : a.eval m = .map (some bw)) (hown : WMap w bw cs d)
    (hK : ∀ w' left cnt, WRange w' bw w.heap.size cs d left cnt → (∀ x : Nat, x < cs.length → ¬ (x : Int) ∈ d → left (.int .i64 (x : Int)) = true) → w.grownBy w' none → w'.heap.size = w.heap.size + 1 → wpList Tryd.prog ops Q rest (a.put o.dst (.pointer (some ⟨w.heap.size, 0, none⟩))) w') :
    wpList Tryd.prog ops Q (o :: rest) a w := by
  obtain ⟨D, h, hw⟩ := hown
  refine wpList_range_own w hg m _ hop 3 47 Tryd.intKey Tryd.underlying62 _ bw _ D hm h ?_
  intro w' h1 h2 h3
  exact hK w' _ _ ⟨D, h1, hw⟩ (fun x hx hd => (hw.keys _).2 ⟨x, hx, hd, rfl⟩) h2 h3

theorem wm_next (hg : o.guard = none) (it : Operand) (hop : o.op = Op.next it false) (bw r : Nat) (cs : List Nat) (d : List Int) (left : Lit → Bool) (cnt : Nat) (hit : a.eval it = .pointer (some ⟨r, 0, none⟩)) (h : WRange w bw r cs d left cnt)
    (hDone : (∀ kl, left kl = false) → wpList Tryd.prog ops Q rest (a.put o.dst (.tuple #[.bool false])) w)
    (hMore : ∀ (x c : Nat) (w' : World) (cnt' : Nat), cs[x]? = some c → ¬ (x : Int) ∈ d → left (.int .i64 (x : Int)) = true → WRange w' bw r cs d (fun z => left z && !z.sameKey (.int .i64 (x : Int))) cnt' → cnt' < cnt →
      w.grownBy w' (some r) → w'.heap.size = w.heap.size → (Instr.entry (.pointer (some ⟨r, 0, none⟩))).run Tryd.prog w' = .ok (.tuple #[.int .i64 (x : Int), .map (some c)]) w' → wpList Tryd.prog ops Q rest (a.put o.dst (.tuple #[.bool true, .int .i64 (x : Int), .map (some c)])) w') :
    wpList Tryd.prog ops Q (o :: rest) a w := by
  obtain ⟨D, h, hw⟩ := h
  refine wpList_next_ranges w hg it hop 3 Tryd.intKey ptrElem (Value.int .i64) Value.map (fun key kl hkey => by obtain ⟨x, rfl, _⟩ := Maps.keyOf_int_inv Tryd.underlying3 hkey; exact ⟨x, rfl⟩) (fun v y hv => ptrElem_inv hv) bw r cs.length D left cnt hit h (fun _ hl => hDone hl) ?_
  intro x c kl y w' cnt' hkey hlk hv hat hrg hlt hgr hsz hen
  obtain ⟨x', ex, rfl, hwx⟩ := Maps.keyOf_int_inv Tryd.underlying3 hkey
  cases ex
  obtain ⟨z, hz, hd, ez⟩ := (hw.keys _).1 (has_true_of_atKey hat)
  cases ez
  have hc : cs[z]? = some (cs[z]'hz) := List.getElem?_eq_getElem _
  have e1 := hw.at_ z _ hc hd .nil
  rw [hat] at e1
  have e2 : c = some (cs[z]'hz) := by
    cases c with
    | none => simp [ptrElem] at hv; rw [← hv] at e1; simp at e1
    | some b => simp [ptrElem] at hv; rw [← hv] at e1; simp at e1; exact congrArg some (by omega)
  subst e2
  exact hMore z _ w' cnt' hc hd hlk ⟨D, hrg, hw⟩ hlt hgr hsz hen
end
end Go.Proofs.YtggkeodoenhmoaaDoor
