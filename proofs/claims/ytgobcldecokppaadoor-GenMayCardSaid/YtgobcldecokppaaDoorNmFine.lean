/- names: what tree.Check says of a statement. -/
import Derived.Test.YtgobcldecokppaaDoorTrCheck
import Derived.Maps.OwnSet
import Derived.StringKeys
import Derived.Deep.Upon
/- Maps of names to numbers: laws for the walk. -/
namespace Go.Proofs.YtgobcldecokppaaDoor
open Go.RowKit Go.Maps

instance decBytes : DecidableEq ByteArray := fun a b => if h : a.data = b.data then .isTrue (by cases a; cases b; simp_all) else .isFalse (fun e => h (by rw [e]))
instance memBytes (x : ByteArray) (S : List ByteArray) : Decidable (x ∈ S) := @List.instDecidableMemOfLawfulBEq ByteArray (@instBEqOfDecidableEq _ decBytes) inferInstance x S
theorem filter_len {S : List ByteArray} {y : ByteArray} (h : S.Nodup) (hy : y ∈ S) : (S.filter fun i => decide (i ≠ y)).length + 1 = S.length := by
  induction S with
  | nil => cases hy
  | cons x S ih =>
    obtain ⟨h1, h2⟩ := List.nodup_cons.1 h
    rcases List.mem_cons.1 hy with rfl | hy
    · rw [List.filter_cons_of_neg (by simp), List.filter_eq_self.2 (fun a ha => by rw [decide_eq_true_eq]; intro e; subst e; exact h1 ha)]
      rfl
    · rw [List.filter_cons_of_pos (by rw [decide_eq_true_eq]; intro e; subst e; exact h1 hy)]
      have := ih h2 hy
      simp only [List.length_cons]
      omega
def keyS (s : ByteArray) : Lit := .string s.data.toList
theorem keyS_inj {s t : ByteArray} (h : keyS s = keyS t) : s = t := by
  unfold keyS at h
  injection h with h
  have : s.data = t.data := Array.toList_inj.1 h
  cases s; cases t; simp_all
theorem isKeyS (s : ByteArray) : WideAt.IsKeyLit (keyS s) := by simp [WideAt.IsKeyLit, keyS]
theorem Tryd.strKey : Keyed Tryd.prog 9 := string_keyed Tryd.underlying9
def numD : Value → Option (DataW Unit × List MemPlace)
  | .int .i64 x => some (.lit (.int .i64 x), [])
  | _ => none
theorem numD_inv {v : Value} {x : Int} {p : List MemPlace} (h : numD v = some (.lit (.int .i64 x), p)) : v = .int .i64 x := by
  unfold numD at h
  split at h
  · simp at h; rw [h.1]
  · cases h
theorem owns_tight {w : World} {P : Program} {k : TypeId} {R : Value → Option (DataW Unit × List MemPlace)} {b n : Nat} {D : DataW Unit} (h : w.ownsMap P k R b n D) : w.ownsMap P k R b (Maps.size D) D := by
  obtain ⟨es, clock, hb, F, hs, rfl⟩ := h
  exact ⟨es, clock, hb, F, by simp [Maps.size, length_sorted], rfl⟩
theorem hasS_put {D : DataW Unit} (hD : IsMap D) (x : ByteArray) (d : DataW Unit) (kl : Lit) : Maps.has (D.put (keyS x) d) kl = true ↔ kl = keyS x ∨ Maps.has D kl = true := by
  by_cases e : kl = keyS x
  · subst e; simp [has_put_same hD (isKeyS x)]
  · rw [has_put_other e]; simp [e]
theorem hasS_del {D : DataW Unit} (x : ByteArray) (kl : Lit) : Maps.has (D.del (keyS x)) kl = true ↔ kl ≠ keyS x ∧ Maps.has D kl = true := by
  by_cases e : kl = keyS x
  · subst e; simp [has_del_same]
  · rw [has_del_other e]; simp [e]
def insS (S : List ByteArray) (x : ByteArray) : List ByteArray := if x ∈ S then S else x :: S
theorem insS_mem (S : List ByteArray) (x y : ByteArray) : y ∈ insS S x ↔ y = x ∨ y ∈ S := by
  unfold insS; split
  · rename_i h; constructor
    · intro h; exact .inr h
    · rintro (rfl | h2)
      · exact h
      · exact h2
  · simp
theorem insS_nodup {S : List ByteArray} (h : S.Nodup) (x : ByteArray) : (insS S x).Nodup := by
  unfold insS; split
  · exact h
  · rename_i hx; exact List.nodup_cons.2 ⟨hx, h⟩
/-- Block b of w is a map of names to numbers: its keys S, its numbers F (0 where there is none). -/
def SMap (w : World) (b : Nat) (S : List ByteArray) (F : ByteArray → Int) : Prop :=
  ∃ D : DataW Unit, w.ownsMap Tryd.prog 9 numD b S.length D ∧ S.Nodup ∧ Maps.size D = S.length ∧ (∀ kl, Maps.has D kl = true ↔ ∃ x ∈ S, kl = keyS x) ∧ ∀ y, D.atKey (keyS y) (.lit (.int .i64 0)) = .lit (.int .i64 (F y))
theorem SMap.made (w : World) : SMap (w.alloc (.map #[] 0)) w.heap.size [] (fun _ => 0) :=
  ⟨.map [], World.ownsMap_made w _ _ _, List.nodup_nil, rfl, fun kl => by simp [Maps.has], fun _ => rfl⟩
theorem SMap.lt {w : World} {b : Nat} {S : List ByteArray} {F : ByteArray → Int} (h : SMap w b S F) : b < w.heap.size := by obtain ⟨D, h, _⟩ := h; exact h.lt
theorem SMap.at_block {w w' : World} {b : Nat} {S : List ByteArray} {F : ByteArray → Int} (h : SMap w b S F) (hb : w'.heap[b]? = w.heap[b]?) : SMap w' b S F := by
  obtain ⟨D, ⟨es, clock, hh, r2⟩, r⟩ := h
  exact ⟨D, ⟨es, clock, hb.trans hh, r2⟩, r⟩
theorem SMap.later {w w' : World} {b B : Nat} {S : List ByteArray} {F : ByteArray → Int} (h : SMap w b S F) (hb : Below B w w') (hB : b < B) : SMap w' b S F := h.at_block (hb.block b hB)
theorem SMap.oth {T : Nat → Prop} {w w' : World} {b : Nat} {S : List ByteArray} {F : ByteArray → Int} (h : SMap w b S F) (hO : Oth T w w') (hb : ¬ T b) : SMap w' b S F := h.at_block (hO.block b h.lt hb)
theorem Oth.of_grown {w w' : World} {b : Nat} (h : w.grownBy w' (some b)) : Oth (· = b) w w' := ⟨h.os, h.tape, h.output, h.size, fun i hi hc => h.block i hi (by simpa using hc)⟩

section
set_option maxRecDepth 100000
variable {w : World} {ops : Array Oper} {rest : List Oper} {o : Oper} {a : Act} {Q : Exit → Act → World → Prop}
theorem sm_look {t e : TypeId} (ht : Tryd.prog.underlying t = some (.map 9 e)) (hz0 : (zeroValue e).run Tryd.prog w = .ok (.int .i64 0) w) (hg : o.guard = none) (m x : Operand) (hop : o.op = Op.lookup t m x false) (b : Nat) (S : List ByteArray) (F : ByteArray → Int) (hm : a.eval m = .map (some b)) (hown : SMap w b S F) (y : ByteArray) (hx : a.eval x = .string y)
    (hs : y.size ≤ maxLen) (z : Int) (hz : F y = z) (hK : wpList Tryd.prog ops Q rest (a.put o.dst (.int .i64 z)) w) : wpList Tryd.prog ops Q (o :: rest) a w := by
  obtain ⟨D, h, _, _, _, hF⟩ := hown
  refine wpList_plain hg fun K' hK' => ?_
  obtain ⟨v, ps, hrun, hv⟩ := h.lookup Tryd.strKey ht (z := .int .i64 0) hz0 (zd := .lit (.int .i64 0)) (zp := []) rfl (WideMaps.keyOf_string_mk Tryd.underlying9 hs)
  have hv : numD v = some (D.atKey (keyS y) (.lit (.int .i64 0)), ps) := hv
  rw [hF y, hz] at hv
  have e := numD_inv hv
  subst e
  unfold Oper.wp
  simp [execOp, hop, hm, hx, hrun, Result.andThen]
  exact hK' _ _ hK
theorem sm_look_ok {t e : TypeId} (ht : Tryd.prog.underlying t = some (.map 9 e)) (hz0 : (zeroValue e).run Tryd.prog w = .ok (.int .i64 0) w) (hg : o.guard = none) (m x : Operand) (hop : o.op = Op.lookup t m x true) (b : Nat) (S : List ByteArray) (F : ByteArray → Int) (hm : a.eval m = .map (some b)) (hown : SMap w b S F) (y : ByteArray) (hx : a.eval x = .string y)
    (hs : y.size ≤ maxLen) (z : Int) (hz : F y = z) (r : Bool) (hr : decide (y ∈ S) = r) (hK : wpList Tryd.prog ops Q rest (a.put o.dst (.tuple #[.int .i64 z, .bool r])) w) : wpList Tryd.prog ops Q (o :: rest) a w := by
  obtain ⟨D, h, _, _, hh, hF⟩ := hown
  refine wpList_lookup_own_ok w hg m x t hop 9 e Tryd.strKey ht numD hz0 (.lit (.int .i64 0)) [] rfl b _ D hm h _ _ hx (WideMaps.keyOf_string_mk Tryd.underlying9 hs) ?_
  intro v ps hv
  have hv : numD v = some (D.atKey (keyS y) (.lit (.int .i64 0)), ps) := hv
  rw [hF y, hz] at hv
  have e1 := numD_inv hv
  subst e1
  have e : Maps.has D (.string y.data.toList) = r := by
    rw [← hr, Bool.eq_iff_iff, hh]
    simp only [decide_eq_true_eq]
    constructor
    · rintro ⟨x, hx, e⟩
      rw [keyS_inj (show keyS y = keyS x from e)]; exact hx
    · intro h; exact ⟨y, h, rfl⟩
  rw [e]
  exact hK
theorem sm_put {t e : TypeId} (ht : Tryd.prog.underlying t = some (.map 9 e)) (hg : o.guard = none) (m x v : Operand) (hop : o.op = Op.mapUpdate t m x v) (b : Nat) (S : List ByteArray) (F : ByteArray → Int) (hm : a.eval m = .map (some b)) (hown : SMap w b S F) (y : ByteArray) (hx : a.eval x = .string y) (z : Int) (hv : a.eval v = .int .i64 z)
    (hs : y.size ≤ maxLen) (hl : S.length ≤ 1000000) (hK : ∀ w', SMap w' b (insS S y) (fun i => if i = y then z else F i) → w.grownBy w' (some b) → wpList Tryd.prog ops Q rest (a.put o.dst undef) w') : wpList Tryd.prog ops Q (o :: rest) a w := by
  obtain ⟨D, h, hn, hsz0, hh, hF⟩ := hown
  refine wpList_mapUpdate_own w hg m x v _ hop 9 e Tryd.strKey ht _ b _ D hm h (by unfold maxLen; omega) _ _ _ hx hv (WideMaps.keyOf_string_mk Tryd.underlying9 hs) (.lit (.int .i64 z)) [] rfl ?_
  intro w' h1 h2
  have h1 : w'.ownsMap Tryd.prog 9 numD b (S.length + 1) (D.put (keyS y) (.lit (.int .i64 z))) := h1
  have hsz : Maps.size (D.put (keyS y) (.lit (.int .i64 z))) = (insS S y).length := by
    rw [size_put (h.tidy Tryd.strKey), hsz0]
    unfold insS
    by_cases hy : y ∈ S
    · rw [if_pos ((hh _).2 ⟨y, hy, rfl⟩), if_pos hy]
    · rw [if_neg (fun h => hy (by obtain ⟨z, hz, e⟩ := (hh _).1 h; rw [keyS_inj e]; exact hz)), if_neg hy]; rfl
  refine hK w' ⟨D.put (keyS y) (.lit (.int .i64 z)), by rw [← hsz]; exact owns_tight h1, insS_nodup hn y, hsz, fun kl => ?_, fun u => ?_⟩ h2
  · rw [hasS_put h.isMap, hh]
    constructor
    · rintro (rfl | ⟨x, hx, rfl⟩)
      · exact ⟨y, (insS_mem _ _ _).2 (.inl rfl), rfl⟩
      · exact ⟨x, (insS_mem _ _ _).2 (.inr hx), rfl⟩
    · rintro ⟨x, hx, rfl⟩
      rcases (insS_mem _ _ _).1 hx with rfl | hx
      · exact .inl rfl
      · exact .inr ⟨x, hx, rfl⟩
  · by_cases e : u = y
    · subst e; simp only [if_true]; exact atKey_put_same h.isMap (isKeyS _) _ _
    · simp only [if_neg e]; rw [atKey_put_other (fun e1 => e (keyS_inj e1))]; exact hF u
theorem sm_del {t e : TypeId} (ht : Tryd.prog.underlying t = some (.map 9 e)) (hg : o.guard = none) (m x : Operand) (hop : o.op = Op.call { callee := Callee.builtin Builtin.delete, args := #[m, x], argTypes := #[t, 9] }) (b : Nat) (S : List ByteArray) (F : ByteArray → Int) (hm : a.eval m = .map (some b)) (hown : SMap w b S F) (y : ByteArray) (hx : a.eval x = .string y)
    (hs : y.size ≤ maxLen) (hK : ∀ w', SMap w' b (S.filter fun i => decide (i ≠ y)) (fun i => if i = y then 0 else F i) → w.mapTurned w' b → wpList Tryd.prog ops Q rest (a.put o.dst (.tuple #[])) w') : wpList Tryd.prog ops Q (o :: rest) a w := by
  obtain ⟨D, h, hn, hsz0, hh, hF⟩ := hown
  refine wpList_delete_own w hg m x t 9 hop e Tryd.strKey ht numD b _ D hm h _ _ hx (WideMaps.keyOf_string_mk Tryd.underlying9 hs) ?_
  intro w' h1 h2
  have h1 : w'.ownsMap Tryd.prog 9 numD b S.length (D.del (keyS y)) := h1
  have hmem : ∀ kl, Maps.has (D.del (keyS y)) kl = true ↔ ∃ x ∈ S.filter (fun i => decide (i ≠ y)), kl = keyS x := by
    intro kl
    rw [hasS_del, hh]
    constructor
    · rintro ⟨hne, x, hx, rfl⟩
      exact ⟨x, List.mem_filter.2 ⟨hx, decide_eq_true (fun e => hne (by rw [e]))⟩, rfl⟩
    · rintro ⟨x, hx, rfl⟩
      obtain ⟨h1, h2⟩ := List.mem_filter.1 hx
      exact ⟨fun e => (of_decide_eq_true h2) (keyS_inj e), x, h1, rfl⟩
  have hsz : Maps.size (D.del (keyS y)) = (S.filter fun i => decide (i ≠ y)).length := by
    have h3 := size_del (k := keyS y) (h.tidy Tryd.strKey)
    rw [hsz0] at h3
    by_cases hy : y ∈ S
    · rw [if_pos ((hh _).2 ⟨y, hy, rfl⟩)] at h3
      have h5 := filter_len hn hy
      omega
    · rw [if_neg (fun h => hy (by obtain ⟨z, hz, e⟩ := (hh _).1 h; rw [keyS_inj e]; exact hz))] at h3
      have h5 : S.filter (fun i => decide (i ≠ y)) = S := List.filter_eq_self.2 fun a ha => decide_eq_true (fun e => hy (e ▸ ha))
      rw [h5]; omega
  refine hK w' ⟨D.del (keyS y), by rw [← hsz]; exact owns_tight h1, hn.filter _, hsz, hmem, fun u => ?_⟩ h2
  by_cases e : u = y
  · subst e; simp only [if_true]; exact atKey_del_same _
  · simp only [if_neg e]; rw [atKey_del_other (fun e1 => e (keyS_inj e1))]; exact hF u
end
end Go.Proofs.YtgobcldecokppaaDoor

/- The map of the functions that are called: laws for the walk. -/
namespace Go.Proofs.YtgobcldecokppaaDoor
open Go.RowKit Go.Maps

theorem isKeyI (x : Int) : WideAt.IsKeyLit (.int .i64 x) := by simp [WideAt.IsKeyLit]
theorem Tryd.intKey : Keyed Tryd.prog 3 := int_keyed Tryd.underlying3
theorem hasI_put {D : DataW Unit} (hD : IsMap D) (x : Int) (d : DataW Unit) (kl : Lit) : Maps.has (D.put (.int .i64 x) d) kl = true ↔ kl = .int .i64 x ∨ Maps.has D kl = true := by
  by_cases e : kl = .int .i64 x
  · subst e; simp [has_put_same hD (isKeyI x)]
  · rw [has_put_other e]; simp [e]
def insI (S : List Int) (x : Int) : List Int := if x ∈ S then S else x :: S
theorem insI_mem (S : List Int) (x y : Int) : y ∈ insI S x ↔ y = x ∨ y ∈ S := by
  unfold insI; split
  · rename_i h; constructor
    · intro h; exact .inr h
    · rintro (rfl | h2)
      · exact h
      · exact h2
  · simp
theorem insI_nodup {S : List Int} (h : S.Nodup) (x : Int) : (insI S x).Nodup := by
  unfold insI; split
  · exact h
  · rename_i hx; exact List.nodup_cons.2 ⟨hx, h⟩
/-- Block b of w is a map of numbers to numbers: its keys S. -/
def CMap (w : World) (b : Nat) (S : List Int) : Prop :=
  ∃ (D : DataW Unit) (F : Int → Int), w.ownsMap Tryd.prog 3 numD b S.length D ∧ S.Nodup ∧ Maps.size D = S.length ∧ (∀ kl, Maps.has D kl = true ↔ ∃ x ∈ S, kl = .int .i64 x) ∧ ∀ y, D.atKey (.int .i64 y) (.lit (.int .i64 0)) = .lit (.int .i64 (F y))
theorem CMap.made (w : World) : CMap (w.alloc (.map #[] 0)) w.heap.size [] :=
  ⟨.map [], fun _ => 0, World.ownsMap_made w _ _ _, List.nodup_nil, rfl, fun kl => by simp [Maps.has], fun _ => rfl⟩
theorem CMap.lt {w : World} {b : Nat} {S : List Int} (h : CMap w b S) : b < w.heap.size := by obtain ⟨D, F, h, _⟩ := h; exact h.lt
theorem CMap.at_block {w w' : World} {b : Nat} {S : List Int} (h : CMap w b S) (hb : w'.heap[b]? = w.heap[b]?) : CMap w' b S := by
  obtain ⟨D, F, ⟨es, clock, hh, r2⟩, r⟩ := h
  exact ⟨D, F, ⟨es, clock, hb.trans hh, r2⟩, r⟩
theorem CMap.later {w w' : World} {b B : Nat} {S : List Int} (h : CMap w b S) (hb : Below B w w') (hB : b < B) : CMap w' b S := h.at_block (hb.block b hB)
theorem CMap.oth {T : Nat → Prop} {w w' : World} {b : Nat} {S : List Int} (h : CMap w b S) (hO : Oth T w w') (hb : ¬ T b) : CMap w' b S := h.at_block (hO.block b h.lt hb)

section
set_option maxRecDepth 100000
variable {w : World} {ops : Array Oper} {rest : List Oper} {o : Oper} {a : Act} {Q : Exit → Act → World → Prop}
theorem cm_look (hg : o.guard = none) (m x : Operand) (hop : o.op = Op.lookup 86 m x false) (b : Nat) (S : List Int) (hm : a.eval m = .map (some b)) (hown : CMap w b S) (y : Int) (hx : a.eval x = .int .i64 y)
    (hw : -9223372036854775808 ≤ y ∧ y ≤ 9223372036854775807) (hK : ∀ z, wpList Tryd.prog ops Q rest (a.put o.dst (.int .i64 z)) w) : wpList Tryd.prog ops Q (o :: rest) a w := by
  obtain ⟨D, F, h, _, _, _, hF⟩ := hown
  refine wpList_plain hg fun K' hK' => ?_
  obtain ⟨v, ps, hrun, hv⟩ := h.lookup Tryd.intKey Tryd.underlying86 (z := .int .i64 0) (by kernel_rfl) (zd := .lit (.int .i64 0)) (zp := []) rfl (keyOf_int_mk Tryd.underlying3 (WalkArith.wf_i64 hw))
  rw [hF y] at hv
  have e := numD_inv hv
  subst e
  unfold Oper.wp
  simp [execOp, hop, hm, hx, hrun, Result.andThen]
  exact hK' _ _ (hK _)
theorem cm_put (hg : o.guard = none) (m x v : Operand) (hop : o.op = Op.mapUpdate 86 m x v) (b : Nat) (S : List Int) (hm : a.eval m = .map (some b)) (hown : CMap w b S) (y : Int) (hx : a.eval x = .int .i64 y) (z : Int) (hv : a.eval v = .int .i64 z)
    (hy : -9223372036854775808 ≤ y ∧ y ≤ 9223372036854775807) (hl : S.length ≤ 1000000) (hK : ∀ w', CMap w' b (insI S y) → w.grownBy w' (some b) → wpList Tryd.prog ops Q rest (a.put o.dst undef) w') : wpList Tryd.prog ops Q (o :: rest) a w := by
  obtain ⟨D, F, h, hn, hs, hh, hF⟩ := hown
  refine wpList_mapUpdate_own w hg m x v _ hop 3 3 Tryd.intKey Tryd.underlying86 _ b _ D hm h (by unfold maxLen; omega) _ _ _ hx hv (keyOf_int_mk Tryd.underlying3 (WalkArith.wf_i64 hy)) (.lit (.int .i64 z)) [] rfl ?_
  intro w' h1 h2
  have hsz : Maps.size (D.put (.int .i64 y) (.lit (.int .i64 z))) = (insI S y).length := by
    rw [size_put (h.tidy Tryd.intKey), hs]
    unfold insI
    by_cases hy : y ∈ S
    · rw [if_pos ((hh _).2 ⟨y, hy, rfl⟩), if_pos hy]
    · rw [if_neg (fun h => hy (by obtain ⟨z, hz, e⟩ := (hh _).1 h; cases e; exact hz)), if_neg hy]; rfl
  refine hK w' ⟨D.put (.int .i64 y) (.lit (.int .i64 z)), fun i => if i = y then z else F i, by rw [← hsz]; exact owns_tight h1, insI_nodup hn y, hsz, fun kl => ?_, fun u => ?_⟩ h2
  · rw [hasI_put h.isMap, hh]
    constructor
    · rintro (rfl | ⟨x, hx, rfl⟩)
      · exact ⟨y, (insI_mem _ _ _).2 (.inl rfl), rfl⟩
      · exact ⟨x, (insI_mem _ _ _).2 (.inr hx), rfl⟩
    · rintro ⟨x, hx, rfl⟩
      rcases (insI_mem _ _ _).1 hx with rfl | hx
      · exact .inl rfl
      · exact .inr ⟨x, hx, rfl⟩
  · by_cases e : u = y
    · subst e; simp only [if_true]; exact atKey_put_same h.isMap (isKeyI _) _ _
    · simp only [if_neg e]; rw [atKey_put_other (by intro e1; cases e1; exact e rfl)]; exact hF u
end
end Go.Proofs.YtgobcldecokppaaDoor

/- Which name is used wrongly first. -/
namespace Go.Proofs.YtgobcldecokppaaDoor
open Go.RowKit

/-- What is known, and of which kind: 1 a parameter, 2 a local, 3 an array, 4 a loop's; the newest last. -/
abbrev Known := List (ByteArray × Int)
def kindOf : Known → ByteArray → Int
  | [], _ => 0
  | p :: K, s => if p.1 = s then p.2 else kindOf K s
theorem kindOf_append (K L : Known) (s : ByteArray) (h : ∀ p ∈ K, p.2 ≠ 0) : kindOf (K ++ L) s = if kindOf K s ≠ 0 then kindOf K s else kindOf L s := by
  induction K with
  | nil => simp [kindOf]
  | cons p K ih =>
    simp only [List.cons_append, kindOf]
    by_cases e : p.1 = s
    · simp [e, h p (by simp)]
    · simp only [e, if_false]
      exact ih fun q hq => h q (by simp [hq])
theorem kindOf_zero {K : Known} {s : ByteArray} (h : ∀ p ∈ K, p.2 ≠ 0) : kindOf K s = 0 ↔ s ∉ K.map (·.1) := by
  induction K with
  | nil => simp [kindOf]
  | cons p K ih =>
    simp only [kindOf, List.map_cons, List.mem_cons]
    by_cases e : p.1 = s
    · simp [e, h p (by simp)]
    · simp only [e, if_false]
      rw [ih fun q hq => h q (by simp [hq])]
      constructor
      · rintro h (e2 | h2)
        · exact e e2.symm
        · exact h h2
      · intro h h2; exact h (.inr h2)
def needE (K : Known) (s : ByteArray) (arr : Bool) : Int := if kindOf K s = 0 then 8 else if decide (kindOf K s = 3) ≠ arr then 30 else 0
/-- What is wrong with an expression's own name. -/
def Ex.nown (K : Known) (G : List ByteArray) (x : Ex) : Int := if x.kind = 2 then needE K x.name false else if x.kind = 3 then needE K x.name true else if x.kind = 4 ∧ x.name ∉ G then 8 else 0
mutual
def Ex.nerr (K : Known) (G : List ByteArray) : Ex → Int
  | .mk k n s l => if Ex.nown K G (.mk k n s l) ≠ 0 then Ex.nown K G (.mk k n s l) else Ex.nerrs K G l
def Ex.nerrs (K : Known) (G : List ByteArray) : List Ex → Int
  | [] => 0
  | x :: l => if Ex.nerr K G x ≠ 0 then Ex.nerr K G x else Ex.nerrs K G l
end
theorem Ex.nerr_eq (K : Known) (G : List ByteArray) (x : Ex) : x.nerr K G = if x.nown K G ≠ 0 then x.nown K G else Ex.nerrs K G x.args := by cases x; simp only [Ex.nerr, Ex.args]
theorem Ex.nerrs_stop {K : Known} {G : List ByteArray} {l : List Ex} {i : Nat} {x : Ex} (h : l[i]? = some x) (hn : ∀ j y, j < i → l[j]? = some y → y.nerr K G = 0) (he : x.nerr K G ≠ 0) : Ex.nerrs K G l = x.nerr K G := by
  induction l generalizing i with
  | nil => simp at h
  | cons y l ih =>
    cases i with
    | zero => simp at h; subst h; simp [Ex.nerrs, he]
    | succ i =>
      have h0 := hn 0 y (by omega) rfl
      simp only [Ex.nerrs, h0]
      simpa using ih (by simpa using h) (fun j z hj hz => hn (j + 1) z (by omega) (by simpa using hz))
theorem Ex.nerrs_none {K : Known} {G : List ByteArray} {l : List Ex} (hn : ∀ (j : Nat) y, l[j]? = some y → y.nerr K G = 0) : Ex.nerrs K G l = 0 := by
  induction l with
  | nil => simp [Ex.nerrs]
  | cons y l ih =>
    have h0 := hn 0 y rfl
    simp only [Ex.nerrs, h0]
    simpa using ih (fun j z hz => hn (j + 1) z (by simpa using hz))
mutual
/-- The names that an expression calls. -/
def Ex.ncalls : Ex → List ByteArray
  | .mk k _ s l => (if k = 4 then [s] else []) ++ Ex.ncallss l
def Ex.ncallss : List Ex → List ByteArray
  | [] => []
  | x :: l => Ex.ncalls x ++ Ex.ncallss l
end
theorem Ex.ncalls_eq (x : Ex) : x.ncalls = (if x.kind = 4 then [x.name] else []) ++ Ex.ncallss x.args := by cases x; simp only [Ex.ncalls, Ex.kind, Ex.name, Ex.args]; rfl
theorem Ex.ncallss_snoc (l : List Ex) (x : Ex) : Ex.ncallss (l ++ [x]) = Ex.ncallss l ++ x.ncalls := by
  induction l with
  | nil => simp [Ex.ncallss]
  | cons y l ih => simp only [List.cons_append, Ex.ncallss, ih, List.append_assoc]
theorem Ex.ncallss_take {l : List Ex} {i : Nat} {x : Ex} (h : l[i]? = some x) : Ex.ncallss (l.take (i + 1)) = Ex.ncallss (l.take i) ++ x.ncalls := by rw [take_next h, Ex.ncallss_snoc]
/-- What is wrong with a statement's own names and expressions. -/
def St.nlead (K : Known) (x : St) : Int := if x.kind = 3 then (if needE K x.name false ≠ 0 then needE K x.name false else if kindOf K x.name = 4 then 31 else 0) else if x.kind = 4 then needE K x.name true else 0
def St.nfirst (K : Known) (G : List ByteArray) (loops : Int) (x : St) : Int :=
  if x.kind = 8 then (if loops = 0 then 32 else 0) else if x.kind = 2 then 0 else
  if x.nlead K ≠ 0 then x.nlead K else if x.a.nerr K G ≠ 0 then x.a.nerr K G else if x.kind = 4 ∨ x.kind = 7 then x.b.nerr K G else 0
/-- What a statement makes known behind it. -/
def St.nadd (K : Known) (x : St) : Known := if x.kind = 1 then K ++ [(x.name, 2)] else if x.kind = 2 then K ++ [(x.name, 3)] else K
def kAfter (K : Known) (l : List St) : Known := l.foldl St.nadd K
theorem kAfter_take {K : Known} {l : List St} {i : Nat} {x : St} (h : l[i]? = some x) : kAfter K (l.take (i + 1)) = x.nadd (kAfter K (l.take i)) := by rw [take_next h]; simp [kAfter]
mutual
/-- How many statements are met up to the first that is wrong, and what is wrong. -/
def St.nchk (K : Known) (G : List ByteArray) (loops : Int) : St → Nat × Int
  | .mk k s n a b body els cases => after (1, St.nfirst K G loops (.mk k s n a b body els cases))
      (if k = 7 then (if kindOf K s ≠ 0 then (0, 9) else St.nchks (K ++ [(s, 4)]) G (loops + 1) body)
       else if (k = 1 ∨ k = 2) ∧ kindOf K s ≠ 0 then (0, 9)
       else after (St.nchks (St.nadd K (.mk k s n a b body els cases)) G loops body) (after (Cs.nchks (St.nadd K (.mk k s n a b body els cases)) G loops cases) (St.nchks (St.nadd K (.mk k s n a b body els cases)) G loops els)))
def St.nchks (K : Known) (G : List ByteArray) (loops : Int) : List St → Nat × Int
  | [] => (0, 0)
  | x :: l => after (St.nchk K G loops x) (St.nchks (x.nadd K) G loops l)
def Cs.nchk (K : Known) (G : List ByteArray) (loops : Int) : Cs → Nat × Int
  | .mk _ body => St.nchks K G loops body
def Cs.nchks (K : Known) (G : List ByteArray) (loops : Int) : List Cs → Nat × Int
  | [] => (0, 0)
  | x :: l => after (Cs.nchk K G loops x) (Cs.nchks K G loops l)
end
theorem St.nchk_eq (K : Known) (G : List ByteArray) (loops : Int) (x : St) : x.nchk K G loops = after (1, x.nfirst K G loops)
      (if x.kind = 7 then (if kindOf K x.name ≠ 0 then (0, 9) else St.nchks (K ++ [(x.name, 4)]) G (loops + 1) x.body)
       else if (x.kind = 1 ∨ x.kind = 2) ∧ kindOf K x.name ≠ 0 then (0, 9)
       else after (St.nchks (x.nadd K) G loops x.body) (after (Cs.nchks (x.nadd K) G loops x.cases) (St.nchks (x.nadd K) G loops x.els))) := by cases x; simp only [St.nchk, St.kind, St.name, St.body, St.cases, St.els]; rfl
theorem Cs.nchk_eq (K : Known) (G : List ByteArray) (loops : Int) (x : Cs) : x.nchk K G loops = St.nchks K G loops x.body := by cases x; simp only [Cs.nchk, Cs.body]
theorem St.nchks_append (K : Known) (G : List ByteArray) (loops : Int) (l m : List St) : St.nchks K G loops (l ++ m) = after (St.nchks K G loops l) (St.nchks (kAfter K l) G loops m) := by
  induction l generalizing K with
  | nil => simp only [List.nil_append, St.nchks, zero_after, kAfter, List.foldl_nil]
  | cons y l ih =>
    simp only [List.cons_append, St.nchks, ih, after_assoc]
    rfl
theorem Cs.nchks_append (K : Known) (G : List ByteArray) (loops : Int) (l m : List Cs) : Cs.nchks K G loops (l ++ m) = after (Cs.nchks K G loops l) (Cs.nchks K G loops m) := by
  induction l with
  | nil => simp only [List.nil_append, Cs.nchks, zero_after]
  | cons y l ih => simp only [List.cons_append, Cs.nchks, ih, after_assoc]
theorem St.nchks_next {K : Known} {G : List ByteArray} {loops : Int} {l : List St} {i : Nat} {x : St} (h : l[i]? = some x) : St.nchks K G loops (l.take (i + 1)) = after (St.nchks K G loops (l.take i)) (x.nchk (kAfter K (l.take i)) G loops) := by
  rw [take_next h, St.nchks_append]
  simp only [St.nchks, after_zero]
theorem Cs.nchks_next {K : Known} {G : List ByteArray} {loops : Int} {l : List Cs} {i : Nat} {x : Cs} (h : l[i]? = some x) : Cs.nchks K G loops (l.take (i + 1)) = after (Cs.nchks K G loops (l.take i)) (x.nchk K G loops) := by
  rw [take_next h, Cs.nchks_append]
  simp only [Cs.nchks, after_zero]
/-- Once something is wrong, the rest does not matter. -/
theorem St.nchks_stop {K : Known} {G : List ByteArray} {loops : Int} {l : List St} (i : Nat) (h : (St.nchks K G loops (l.take i)).2 ≠ 0) : St.nchks K G loops l = St.nchks K G loops (l.take i) := by
  conv => lhs; rw [← List.take_append_drop i l]
  rw [St.nchks_append]
  exact if_pos h
theorem Cs.nchks_stop {K : Known} {G : List ByteArray} {loops : Int} {l : List Cs} (i : Nat) (h : (Cs.nchks K G loops (l.take i)).2 ≠ 0) : Cs.nchks K G loops l = Cs.nchks K G loops (l.take i) := by
  conv => lhs; rw [← List.take_append_drop i l]
  rw [Cs.nchks_append]
  exact if_pos h
mutual
/-- The names that a statement calls. -/
def St.ncalls : St → List ByteArray
  | .mk k _ _ a b body els cases => (if k = 8 ∨ k = 2 then [] else a.ncalls) ++ ((if k = 4 ∨ k = 7 then b.ncalls else []) ++ (St.ncallss body ++ (Cs.ncallss cases ++ St.ncallss els)))
def St.ncallss : List St → List ByteArray
  | [] => []
  | x :: l => St.ncalls x ++ St.ncallss l
def Cs.ncalls : Cs → List ByteArray
  | .mk _ body => St.ncallss body
def Cs.ncallss : List Cs → List ByteArray
  | [] => []
  | x :: l => Cs.ncalls x ++ Cs.ncallss l
end
def parK (l : List Pm) : Known := l.map fun x => (x.name, 1)
/-- Has one of the parameters a name that stands ahead of it? -/
def twiceB : List Pm → List ByteArray → Bool
  | [], _ => false
  | x :: l, G => decide (x.name ∈ G) || twiceB l (G ++ [x.name])
/-- What is wrong with function i's names, the functions ahead of it being G. -/
def Fn.nfault (f : Fn) (G : List ByteArray) (i : Nat) : Flt :=
  if f.name ∈ G ∨ twiceB f.params [] = true then (9, (i : Int), 0) else
  if (St.nchks (parK f.params) G 0 f.body).2 ≠ 0 then ((St.nchks (parK f.params) G 0 f.body).2, (i : Int), ((St.nchks (parK f.params) G 0 f.body).1 : Int)) else (0, 0, 0)
def Fn.nfaults : List Fn → List ByteArray → Nat → Flt
  | [], _, _ => (0, 0, 0)
  | f :: l, G, i => if (f.nfault G i).1 ≠ 0 then f.nfault G i else Fn.nfaults l (G ++ [f.name]) (i + 1)
/-- Which name is used wrongly first. -/
def Pg.nfault (p : Pg) : Flt := if p.fault.1 ≠ 0 then p.fault else Fn.nfaults p.funcs [] 0
end Go.Proofs.YtgobcldecokppaaDoor

/- names: what is known of a name. -/
namespace Go.Proofs.YtgobcldecokppaaDoor
open Go.RowKit Go.Maps

set_option maxRecDepth 100000 in
theorem of_any (c bk : Nat) (S : List ByteArray) (F : ByteArray → Int) (s : ByteArray) (W : World) (h0 : W.cell? ⟨c, 0, none⟩ = some (.map (some bk))) (hm : SMap W bk S F) (hs : s.size ≤ maxLen) :
    Calls Tryd.prog 69 #[ptrV c, .string s] W (fun e W' => e = .returned (.int .i64 (F s)) ∧ W = W') := by
  have Hm := Lib.hid hm
  obtain ⟨z, hz⟩ : ∃ z, z = F s := ⟨_, rfl⟩
  have Hz := Lib.hid hz
  rw [← hz]
  clear hm hz
  go_enter Tryd.func69, Tryd.ntmps69
  go_wp2_with (at_lookup; refine sm_look (t := 106) Tryd.underlying106 (by kernel_rfl) rfl _ _ rfl bk S F rfl Hm.out s rfl hs z Hz.out.symm ?_)
  go_ret
  exact ⟨rfl, rfl⟩
theorem need_any (c bk : Nat) (S : List ByteArray) (K : Known) (s : ByteArray) (arr : Bool) (W : World) (h0 : W.cell? ⟨c, 0, none⟩ = some (.map (some bk))) (hm : SMap W bk S (kindOf K)) (hs : s.size ≤ maxLen) :
    Calls Tryd.prog 68 #[ptrV c, .string s, .bool arr] W (fun e W' => e = .returned (.int .i64 (needE K s arr)) ∧ W = W') := by
  have Hm := Lib.hid (And.intro h0 hm)
  have q := block_lt_of_cell h0
  clear hm h0
  obtain ⟨z, hz⟩ : ∃ z, z = kindOf K s := ⟨_, rfl⟩
  have Hn : Hid (needE K s arr = if z = 0 then 8 else if decide (z = 3) ≠ arr then 30 else 0) := by show _ = _; unfold needE; rw [← hz]
  have Hz := Lib.hid hz
  clear hz
  go_enter Tryd.func68, Tryd.ntmps68
  go_wp2_with fail
  refine (of_any c bk S (kindOf K) s W Hm.out.1 Hm.out.2 hs).mono ?_
  rintro e w2 ⟨rfl, hw⟩
  rw [← hw, ← Hz.out]
  clear hw
  by_cases h0 : z = 0
  · subst h0
    go_wp2_with fail
    go_ret
    exact ⟨by rw [Hn.out]; rfl, rfl⟩
  · have h1 : (z == 0) = false := by simp [h0]
    by_cases h3 : z = 3
    · subst h3
      cases arr
      all_goals
        go_wp2_with fail
        go_ret
        exact ⟨by rw [Hn.out]; rfl, rfl⟩
    · have h2 : (z == 3) = false := by simp [h3]
      have Hd : Hid (decide (z = 3) = false) := decide_eq_false h3
      have H0 := Lib.hid h0
      cases arr
      all_goals
        clear h0 h3
        go_wp2_with fail
        go_ret
        exact ⟨by rw [Hn.out, if_neg H0.out, Hd.out]; rfl, rfl⟩
end Go.Proofs.YtgobcldecokppaaDoor

/- names: a scope, and what it comes to know. -/
namespace Go.Proofs.YtgobcldecokppaaDoor
open Go.RowKit Go.Maps

theorem Tryd.infoStr : (Tryd.prog.info? 9).map (fun i => (i.zero, i.size, i.bytes)) = some (some (.string ⟨#[]⟩), 1, 16) := by kernel_rfl
def strVs (l : List ByteArray) : List Value := l.map Value.string
def OwnStrs (w : World) (B : Nat) (v : Value) (l : List ByteArray) : Prop := w.ownsRow B 9 1 v l.length (strVs l)
/-- 'out = append(out, y)', out a list of texts of the call's own. -/
theorem append_str {ops : Array Oper} {rest : List Oper} {o : Oper} {a : Act} {Q : Exit → Act → World → Prop} {w : World} (hgd : o.guard = none) (s x : Operand)
    (ho : o.op = .call { callee := .builtin .append, args := #[s, x], argTypes := #[81, 81] })
    (B : Nat) (v : Value) (l : List ByteArray) (hs : a.eval s = v) (hown : OwnStrs w B v l) (y : ByteArray) (hx : a.eval x = .slice (some ⟨w.heap.size, 0, none⟩) 1 1)
    (hl : l.length ≤ 1000000000000) (hB : B ≤ w.heap.size)
    (h : ∀ v' w', OwnStrs w' B v' (l ++ [y]) → (w.alloc (.cells #[.string y] 9)).grownBy w' v.ownBlock → Fresh (w.alloc (.cells #[.string y] 9)) v v' → (∀ C w0, Below C w0 w → C ≤ B → Below C w0 w') → wpList Tryd.prog ops Q rest (a.put o.dst v') w') :
    wpList Tryd.prog ops Q (o :: rest) a (w.alloc (.cells #[.string y] 9)) := by
  refine append_gen hgd s x 81 ho Tryd.underlying81 Tryd.infoStr rfl (by decide) B v l.length (strVs l) hs (World.ownsRow.alloc hown _) _ 1 [.string y] hx (sliceIn_new w [.string y] 1 1 9 rfl (by decide)) ?_ ?_ ?_ ?_ ?_
  · intro u hu; simp at hu; subst hu; rfl
  · unfold maxLen; omega
  · omega
  · simp; omega
  · intro v' w' h1 h2 h3 h4
    exact h v' w' (by unfold OwnStrs strVs at *; simpa using h1) h2 h3 fun C w0 hb hC => h4 C w0 (hb.alloc (by omega) _) hC

/-- A scope in block c: its map in block bk, its list of names is ov. -/
structure ScAt (w : World) (c bk : Nat) (ov : Value) (K : Known) : Prop where
  c0 : w.cell? ⟨c, 0, none⟩ = some (.map (some bk))
  c1 : w.cell? ⟨c, 1, none⟩ = some ov
  f1 : w.frozen? ⟨c, 1, none⟩ = false
  kinds : ∃ S, SMap w bk S (kindOf K) ∧ (∀ x, x ∈ S ↔ x ∈ K.map (·.1)) ∧ S.length = K.length
  order : OwnStrs w (c + 1) ov (K.map (·.1))
  good : (∀ p ∈ K, p.2 ≠ 0 ∧ p.1.size ≤ 16) ∧ (K.map (·.1)).Nodup
  lt : bk < c
/-- What a walk may write: a scope's own blocks. -/
def ScT (c bk : Nat) (ov : Value) (k : Nat) : Prop := k = c ∨ k = bk ∨ ov.ownBlock = some k
def ScNew (W : World) (ov ov' : Value) : Prop := ∀ k, k < W.heap.size → ov'.ownBlock = some k → ov.ownBlock = some k
/-- A scope's block stays as it is but for the list. -/
def ScKeep (W W' : World) (c : Nat) : Prop := ∀ o, o ≠ 1 → W'.cell? ⟨c, o, none⟩ = W.cell? ⟨c, o, none⟩ ∧ W'.frozen? ⟨c, o, none⟩ = W.frozen? ⟨c, o, none⟩
theorem ScKeep.refl (W : World) (c : Nat) : ScKeep W W c := fun _ _ => ⟨rfl, rfl⟩
theorem ScKeep.set {W W' : World} {c : Nat} (h : W'.heap[c]? = W.heap[c]?) (v : Value) : ScKeep W (W'.setCell ⟨c, 1, none⟩ v) c := fun o ho =>
  ⟨(World.cell?_setCell_other _ _ _ _ (by intro e; injection e with e1 e2; exact ho e2.symm)).trans (World.cell?_of_block h), (World.frozen?_setCell _ _ _ _).trans (World.frozen?_of_block h)⟩
theorem OwnStrs.form {w : World} {B : Nat} {v : Value} {l : List ByteArray} (h : OwnStrs w B v l) : ∃ a n cap, v = .slice a n cap := by
  obtain ⟨_, a, cap, e, _⟩ := SliceIn.of_owns h
  exact ⟨a, _, cap, e⟩
/-- What an append leaves as it was. -/
theorem addKeep {w w4 : World} {o : Obj} {ov v4 : Value} {c : Nat} {l : List ByteArray} {V0 V1 : Value} (hg : (w.alloc o).grownBy w4 ov.ownBlock) (_h : OwnStrs w4 (c + 1) v4 l) (d0 : w.cell? ⟨c, 0, none⟩ = some V0) (d1 : w.cell? ⟨c, 1, none⟩ = some V1) (df : w.frozen? ⟨c, 1, none⟩ = false)
    (hov : ∀ k, ov.ownBlock = some k → c + 1 ≤ k ∧ k < w.heap.size) : w4.cell? ⟨c, 0, none⟩ = some V0 ∧ w4.cell? ⟨c, 1, none⟩ = some V1 ∧ w4.frozen? ⟨c, 1, none⟩ = false ∧ ∀ k, k ≤ c → w4.heap[k]? = w.heap[k]? := by
  have q : c < w.heap.size := block_lt_of_cell d0
  have hb : ∀ k, k ≤ c → w4.heap[k]? = w.heap[k]? := fun k hk => by
    have e1 := hg.block k (by simp; omega) (fun e => by have := (hov k e.symm).1; omega)
    rw [e1]
    exact ((Below.refl w.heap.size w).alloc (Nat.le_refl _) o).block k (by omega)
  exact ⟨(World.cell?_of_block (hb c (Nat.le_refl _))).trans d0, (World.cell?_of_block (hb c (Nat.le_refl _))).trans d1, (World.frozen?_of_block (hb c (Nat.le_refl _))).trans df, hb⟩
set_option maxRecDepth 100000 in
set_option maxHeartbeats 2000000 in
theorem add_any (c bk : Nat) (ov : Value) (K : Known) (s : ByteArray) (k : Int) (W : World) (h : ScAt W c bk ov K) (hs : s.size ≤ 16) (hk : k ≠ 0) (hl : K.length ≤ 100000) :
    Calls Tryd.prog 40 #[ptrV c, .string s, .int .i64 k] W (fun e W' => (kindOf K s ≠ 0 ∧ e = .returned (.bool false) ∧ W' = W) ∨
      (kindOf K s = 0 ∧ e = .returned (.bool true) ∧ ∃ ov', ScAt W' c bk ov' (K ++ [(s, k)]) ∧ Oth (ScT c bk ov) W W' ∧ ScNew W ov ov' ∧ ScKeep W W' c)) := by
  have H := Lib.hid h
  obtain ⟨S, hm, hS, hSl⟩ := h.kinds
  have Hm := Lib.hid (And.intro hm hS)
  have h0 := h.c0
  have h1 := h.c1
  have hf1 := h.f1
  have hlt := h.lt
  have q := block_lt_of_cell h0
  have hs2 : s.size ≤ maxLen := by unfold maxLen; omega
  obtain ⟨z, hz⟩ : ∃ z, z = kindOf K s := ⟨_, rfl⟩
  have Hz := Lib.hid hz
  rw [← hz]
  clear hm hS h hz
  go_enter Tryd.func40, Tryd.ntmps40
  go_upto_if 13 with (at_lookup; refine sm_look (t := 106) Tryd.underlying106 (by kernel_rfl) rfl _ _ rfl bk S (kindOf K) rfl Hm.out.1 s rfl hs2 z Hz.out.symm ?_)
  by_cases hz0 : z = 0
  · subst hz0
    have Hnot : Hid (s ∉ S) := fun h => (kindOf_zero fun p hp => (H.out.good.1 p hp).1).1 Hz.out.symm ((Hm.out.2 s).1 h)
    have hSl2 : S.length ≤ 1000000 := by omega
    go_upto_region 4 with (at_mapUpdate; refine sm_put (t := 106) Tryd.underlying106 rfl _ _ _ rfl bk S (kindOf K) rfl Hm.out.1 s rfl k rfl hs2 hSl2 ?_; intro w2 hm2 hg2)
    have hcb : ∀ {i : Nat}, i < W.heap.size → i ≠ bk → w2.heap[i]? = W.heap[i]? := fun hi hne => hg2.block _ hi (by simpa using hne)
    have qc : c < W.heap.size := q
    have d0 : w2.cell? ⟨c, 0, none⟩ = some (.map (some bk)) := (World.cell?_of_block (hcb (i := c) qc (by omega))).trans h0
    have d1 : w2.cell? ⟨c, 1, none⟩ = some ov := (World.cell?_of_block (hcb (i := c) qc (by omega))).trans h1
    have df : w2.frozen? ⟨c, 1, none⟩ = false := (World.frozen?_of_block (hcb (i := c) qc (by omega))).trans hf1
    have hord2 : OwnStrs w2 (c + 1) ov (K.map (·.1)) := H.out.order.kept hg2 (.inr fun e => by have := (World.ownsRow.lt H.out.order bk e).1; omega)
    have qs := hg2.size
    have hlm : (K.map (·.1)).length ≤ 1000000000000 := by simp; omega
    have H2 := Lib.hid (And.intro hm2 (And.intro hg2 hord2))
    have Hd := Lib.hid (And.intro d0 (And.intro d1 df))
    clear h0 h1 hf1 hcb hm2 hg2 hord2
    have qc2 : c < w2.heap.size := by omega
    go_upto_region 5 with (at_builtin; refine append_str rfl _ _ rfl (c + 1) ov (K.map (·.1)) rfl H2.out.2.2 s rfl hlm (by omega) ?_; intro v4 w4 hord4 hg4 hfr4 hb4; obtain ⟨a4, n4, c4, rfl⟩ := OwnStrs.form hord4; have d2 := addKeep hg4 hord4 d0 d1 df (World.ownsRow.lt H2.out.2.2))
    obtain ⟨-, d1', df', -⟩ := d2
    have H4 := Lib.hid (And.intro hord4 (And.intro hg4 (And.intro hfr4 hb4)))
    clear d0 d1 df hord4 hg4 hfr4 hb4 d1' df'
    obtain ⟨w5, hw5⟩ : ∃ w5, w5 = w4.setCell ⟨c, 1, none⟩ (.slice a4 n4 c4) := ⟨_, rfl⟩
    rw [← hw5]
    have HW5 := Lib.hid hw5
    clear hw5
    go_wp2_with fail
    go_ret
    obtain ⟨e0, e1, ef, eb⟩ := addKeep H4.out.2.1 H4.out.1 Hd.out.1 Hd.out.2.1 Hd.out.2.2 (World.ownsRow.lt H2.out.2.2)
    have hz : kindOf K s = 0 := Hz.out.symm
    have hgood := H.out.good
    have hF : (fun i => if i = s then k else kindOf K i) = kindOf (K ++ [(s, k)]) := by
      funext i
      rw [kindOf_append K _ i fun p hp => (hgood.1 p hp).1]
      by_cases e : i = s
      · subst e; simp [hz, kindOf]
      · have e2 : s ≠ i := fun h => e h.symm
        simp only [if_neg e, kindOf, if_neg e2]
        split
        · rfl
        · rename_i h; simpa using h
    have hnK : s ∉ K.map (·.1) := (kindOf_zero fun p hp => (hgood.1 p hp).1).1 hz
    have qW : c < W.heap.size := block_lt_of_cell H.out.c0
    have q4 := H4.out.2.1.size
    have hother : ∀ j, j ≠ c → w5.heap[j]? = w4.heap[j]? := fun j hj => by rw [HW5.out]; exact Below.heap_setCell _ _ _ _ (fun e => hj (by rw [e]))
    refine ⟨rfl, .slice a4 n4 c4, ⟨?_, ?_, ?_, ⟨insS S s, ?_, ?_, ?_⟩, ?_, ⟨?_, ?_⟩, hlt⟩, ?_, ?_, ?_⟩
    · rw [HW5.out]; exact (World.cell?_setCell_other _ _ _ _ (by simp)).trans e0
    · rw [HW5.out]; exact World.cell?_setCell_same' _ _ _ (by rw [e1]; rfl)
    · rw [HW5.out]; exact (World.frozen?_setCell _ _ _ _).trans ef
    · rw [← hF]
      exact H2.out.1.at_block ((hother bk (by omega)).trans (eb bk (by omega)))
    · intro x
      rw [insS_mem, Hm.out.2 x]
      simp only [List.map_append, List.map_cons, List.map_nil, List.mem_append, List.mem_cons, List.not_mem_nil, or_false]
      exact Or.comm
    · unfold insS
      rw [if_neg Hnot.out]
      simp [hSl]
    · have h := H4.out.1
      rw [HW5.out]
      unfold OwnStrs at *
      rw [List.map_append]
      exact ownsRow_setCell_below h (by show c < c + 1; omega) _
    · intro p hp
      rcases List.mem_append.1 hp with h | h
      · exact hgood.1 p h
      · simp at h; subst h; exact ⟨hk, hs⟩
    · rw [List.map_append, List.nodup_append]
      refine ⟨hgood.2, by simp, ?_⟩
      intro x hx y hy e
      simp at hy
      subst hy; subst e; exact hnK hx
    · refine ⟨?_, ?_, ?_, ?_, ?_⟩
      · rw [HW5.out]; exact H4.out.2.1.os.trans H2.out.2.1.os
      · rw [HW5.out]; exact H4.out.2.1.tape.trans H2.out.2.1.tape
      · rw [HW5.out]; exact H4.out.2.1.output.trans H2.out.2.1.output
      · rw [HW5.out, size_set]; simp at q4; omega
      · intro j hj hT
        have h1 : j ≠ c := fun e => hT (.inl e)
        have h2 : j ≠ bk := fun e => hT (.inr (.inl e))
        have h3 : ov.ownBlock ≠ some j := fun e => hT (.inr (.inr e))
        rw [hother j h1, H4.out.2.1.block j (by simp; omega) (fun e => h3 e.symm), ((Below.refl w2.heap.size w2).alloc (Nat.le_refl _) _).block j (by omega)]
        exact H2.out.2.1.block j hj (by simpa using h2)
    · intro j hj he
      by_cases h : ov.ownBlock = some j
      · exact h
      · exact absurd he (H4.out.2.2.1 j (by simp; omega) h)
    · rw [HW5.out]
      refine ScKeep.set ?_ _
      rw [eb c (Nat.le_refl _)]
      exact H2.out.2.1.block c qW (by simp; omega)
  · have hq : (z != 0) = true := by simp [hz0]
    have Hz0 := Lib.hid hz0
    clear hz0
    go_wp2_with fail
    go_ret
    exact .inl ⟨Hz0.out, rfl, rfl⟩
end Go.Proofs.YtgobcldecokppaaDoor

/- names: a scope forgets all names but the first ones. -/
namespace Go.Proofs.YtgobcldecokppaaDoor
open Go.RowKit Go.Maps

theorem Oth.of_turned {w w' : World} {b : Nat} (h : w.mapTurned w' b) : Oth (· = b) w w' := by
  obtain ⟨es, clock, es', clock', _, rfl⟩ := h
  refine ⟨rfl, rfl, rfl, by simp [Go.ChangeMaps.setBlock], fun k hk hs => ?_⟩
  simp only [Go.ChangeMaps.setBlock]
  rw [Array.getElem?_setIfInBounds]
  rw [if_neg (fun e => hs e.symm)]
theorem kindOf_not {K : Known} {s : ByteArray} (h : s ∉ K.map (·.1)) : kindOf K s = 0 := by
  induction K with
  | nil => rfl
  | cons p K ih =>
    simp only [List.map_cons, List.mem_cons, not_or] at h
    have e : p.1 ≠ s := fun e => h.1 e.symm
    simp only [kindOf, if_neg e]
    exact ih h.2
theorem kindOf_drop (A B : Known) (p : ByteArray × Int) (hn : ((A ++ p :: B).map (·.1)).Nodup) (i : ByteArray) : (if i = p.1 then 0 else kindOf (A ++ p :: B) i) = kindOf (A ++ B) i := by
  induction A with
  | nil =>
    simp only [List.nil_append, List.map_cons, List.nodup_cons] at hn ⊢
    by_cases e : i = p.1
    · rw [if_pos e, e, kindOf_not hn.1]
    · have e2 : p.1 ≠ i := fun h => e h.symm
      rw [if_neg e]
      simp only [kindOf, if_neg e2]
  | cons q A ih =>
    simp only [List.cons_append, List.map_cons, List.nodup_cons] at hn
    simp only [List.cons_append, kindOf]
    rw [← ih hn.2]
    by_cases e : q.1 = i
    · subst e
      have hne : q.1 ≠ p.1 := fun h => hn.1 (by rw [h]; simp)
      simp [hne]
    · simp [e]
theorem take_drop_next {K : Known} {n j : Nat} {p : ByteArray × Int} (h : K[n + j]? = some p) : K.take n ++ K.drop (n + j) = K.take n ++ p :: K.drop (n + (j + 1)) := by
  have hlt := (List.getElem?_eq_some_iff.1 h).1
  rw [List.drop_eq_getElem_cons hlt, (List.getElem?_eq_some_iff.1 h).2, Nat.add_assoc]
set_option maxRecDepth 100000 in
set_option maxHeartbeats 2000000 in
theorem forget_any (c bk : Nat) (ov : Value) (K : Known) (n : Nat) (W : World) (h : ScAt W c bk ov K) (hn : n ≤ K.length) (hl : K.length ≤ 100000) :
    Calls Tryd.prog 50 #[ptrV c, .int .i64 (n : Int)] W (fun e W' => e = .returned (.tuple #[]) ∧ ∃ ov', ScAt W' c bk ov' (K.take n) ∧ Oth (ScT c bk ov) W W' ∧ ScNew W ov ov' ∧ ScKeep W W' c) := by
  have H := Lib.hid h
  obtain ⟨S, hm, hS, hSl⟩ := h.kinds
  have h0 := h.c0
  have h1 := h.c1
  have hf1 := h.f1
  have hlt := h.lt
  have q : c < W.heap.size := block_lt_of_cell h0
  obtain ⟨m, hmm⟩ : ∃ m, m = K.length := ⟨_, rfl⟩
  have hord := h.order
  have Hm := Lib.hid (And.intro hm (And.intro hS hSl))
  have hlen : (K.map (·.1)).length = K.length := by simp
  rcases hord.2 with ⟨rfl, hk0⟩ | ⟨g, vcap, cur, rfl, hg, hgh, hnv, hcm, hcs, htake⟩
  · have hK0 : K = [] := List.eq_nil_of_length_eq_zero (by rw [← hlen]; exact hk0)
    subst hK0
    obtain rfl : n = 0 := by simpa using hn
    clear hm hS hSl h hord
    go_enter Tryd.func50, Tryd.ntmps50
    go_wp2_with fail
    go_loopg [13] 0 (fun g jv wx => g = 0 ∧ jv = .int .i64 0 ∧ wx = W)
    case atStart => exact ⟨rfl, rfl, rfl⟩
    case round =>
      obtain ⟨hg, rfl, rfl⟩ := hrel
      go_wp2_with fail
      refine bodyPost_end (results_none rfl _ _ _) rfl ?_
      refine ⟨rfl, .slice none 0 0, ⟨?_, ?_, ?_, ⟨S, ?_, Hm.out.2.1, Hm.out.2.2⟩, ?_, H.out.good, hlt⟩, (Oth.refl _ _).set (p := ⟨c, 1, none⟩) (.inl rfl) _, fun k _ hk => hk, ScKeep.set rfl _⟩
      · exact (World.cell?_setCell_other _ _ _ _ (by simp)).trans h0
      · exact World.cell?_setCell_same' _ _ _ (by rw [h1]; rfl)
      · exact (World.frozen?_setCell _ _ _ _).trans hf1
      · exact Hm.out.1.at_block (Below.heap_setCell _ _ _ _ (by show bk ≠ c; omega))
      · exact ownsRow_setCell_below H.out.order (by show c < c + 1; omega) _
  · rw [hlen, ← hmm] at hnv
    rw [hlen] at h1
    rw [← hmm] at h1 hn hl
    have hgW := (Array.getElem?_eq_some_iff.1 hgh).1
    have Hord := Lib.hid (And.intro hord (And.intro hgh (And.intro hcs (And.intro htake hmm))))
    have hm62 : m ≤ 9223372036854775807 := by omega
    have hcm2 : vcap ≤ 9223372036854775807 := by have : maxLen ≤ 9223372036854775807 := by decide
                                                 omega
    have Hcm := Lib.hid hcm
    clear hm hS hSl h hord hgh hcs htake hmm hcm
    have hother : ∀ {w w5 : World} {v : Value}, w5 = w.setCell ⟨c, 1, none⟩ v → ∀ j, j ≠ c → w5.heap[j]? = w.heap[j]? := fun {w w5 v} e j hj => by rw [e]; exact Below.heap_setCell _ _ _ _ (fun e => hj (by rw [e]))
    have Hend : Hid (∀ w w5 : World, (∃ S, SMap w bk S (kindOf (K.take n)) ∧ (∀ x, x ∈ S ↔ x ∈ (K.take n).map (·.1)) ∧ S.length = (K.take n).length) → Oth (· = bk) W w → w5 = w.setCell ⟨c, 1, none⟩ (.slice (some ⟨g, 0, none⟩) n vcap) →
        ∃ ov', ScAt w5 c bk ov' (K.take n) ∧ Oth (ScT c bk (.slice (some ⟨g, 0, none⟩) (K.map (·.1)).length vcap)) W w5 ∧ ScNew W (.slice (some ⟨g, 0, none⟩) (K.map (·.1)).length vcap) ov' ∧ ScKeep W w5 c) := by
      intro w w5 hS hO hw5
      obtain ⟨S, s1, s2, s3⟩ := hS
      have e0 := (hO.cell (p := ⟨c, 0, none⟩) q (by show ¬ c = bk; omega)).trans h0
      have e1 := (hO.cell (p := ⟨c, 1, none⟩) q (by show ¬ c = bk; omega)).trans h1
      have ef := (hO.frozen (p := ⟨c, 1, none⟩) q (by show ¬ c = bk; omega)).trans hf1
      have hn2 : n ≤ K.length := by rw [← Hord.out.2.2.2.2]; exact hn
      refine ⟨.slice (some ⟨g, 0, none⟩) n vcap, ⟨?_, ?_, ?_, ⟨S, ?_, s2, s3⟩, ?_, ⟨?_, ?_⟩, hlt⟩, ?_, ?_, ?_⟩
      · rw [hw5]; exact (World.cell?_setCell_other _ _ _ _ (by simp)).trans e0
      · rw [hw5]; exact World.cell?_setCell_same' _ _ _ (by rw [e1]; rfl)
      · rw [hw5]; exact (World.frozen?_setCell _ _ _ _).trans ef
      · exact s1.at_block (hother hw5 bk (by omega))
      · refine ⟨by simp [strVs], .inr ⟨g, vcap, cur, by simp [Nat.min_eq_left hn2], hg, ?_, by simp; omega, ?_, Hord.out.2.2.1, ?_⟩⟩
        · rw [hother hw5 g (by omega), hO.block g hgW (by omega)]; exact Hord.out.2.1
        · exact Hcm.out
        · have h := Hord.out.2.2.2.1
          rw [hlen, Nat.mul_one] at h
          simp only [List.length_map, List.length_take, Nat.min_eq_left hn2, Nat.mul_one]
          have e : cur.toList.take n = (cur.toList.take K.length).take n := by rw [List.take_take, Nat.min_eq_left hn2]
          rw [e, h]
          simp [strVs, List.map_take]
      · intro p hp; exact H.out.good.1 p (List.mem_of_mem_take hp)
      · rw [List.map_take]; exact (List.take_sublist _ _).nodup H.out.good.2
      · refine (hO.imp fun k _ hk => .inr (.inl hk)).trans ?_
        rw [hw5]
        exact (Oth.refl _ _).set (p := ⟨c, 1, none⟩) (.inl rfl) _
      · intro k _ hk; exact hk
      · rw [hw5]; exact ScKeep.set (hO.block c q (by omega)) _
    clear hother
    have hgc : g ≠ bk := by omega
    have qc := q
    by_cases hnm : n = m
    · subst hnm
      have Hk : Hid (K.take n = K) := by show _ = _; rw [List.take_of_length_le (by rw [← Hord.out.2.2.2.2]; exact Nat.le_refl _)]
      go_enter Tryd.func50, Tryd.ntmps50
      go_wp2_with fail
      all_goals
        go_loopg [13] 0 (fun g jv wx => g = 0 ∧ jv = .int .i64 0 ∧ wx = W)
        case atStart => exact ⟨rfl, rfl, rfl⟩
        case round =>
          obtain ⟨hg, rfl, rfl⟩ := hrel
          go_wp2_with fail
          refine bodyPost_end (results_none rfl _ _ _) rfl ?_
          exact ⟨rfl, Hend.out _ _ ⟨S, by rw [Hk.out]; exact Hm.out.1, by rw [Hk.out]; exact Hm.out.2.1, by rw [Hk.out]; exact Hm.out.2.2⟩ (Oth.refl _ _) (by first | rfl | (have e : vcap = n := (by omega); rw [e]))⟩
    · have hvn : ¬ vcap = n := by omega
      go_enter Tryd.func50, Tryd.ntmps50
      go_wp2_with fail
      go_loopg [13] (m - n) (fun gg jv wx => ∃ j : Nat, gg = (m - n) - j ∧ jv = .int .i64 (j : Int) ∧ j ≤ m - n ∧ (∃ S, SMap wx bk S (kindOf (K.take n ++ K.drop (n + j))) ∧ (∀ x, x ∈ S ↔ x ∈ (K.take n ++ K.drop (n + j)).map (·.1)) ∧ S.length = (K.take n ++ K.drop (n + j)).length) ∧ Oth (· = bk) W wx)
      case atStart =>
        refine ⟨0, rfl, rfl, Nat.zero_le _, ⟨S, ?_, ?_, ?_⟩, Oth.refl _ _⟩
        all_goals rw [Nat.add_zero, List.take_append_drop]
        · exact Hm.out.1
        · exact Hm.out.2.1
        · exact Hm.out.2.2
      case round =>
        obtain ⟨j, hg2, rfl, hj, ⟨S2, s1, s2, s3⟩, hO⟩ := hrel
        have d0 := (hO.cell (p := ⟨c, 0, none⟩) qc (by show ¬ c = bk; omega)).trans h0
        have d1 := (hO.cell (p := ⟨c, 1, none⟩) qc (by show ¬ c = bk; omega)).trans h1
        have df := (hO.frozen (p := ⟨c, 1, none⟩) qc (by show ¬ c = bk; omega)).trans hf1
        have HS2 := Lib.hid (And.intro s1 (And.intro s2 s3))
        have HO := Lib.hid hO
        have Hg := Lib.hid hg2
        have qr := hO.size
        clear s1 s2 s3 hg2
        by_cases hjm : j < m - n
        · obtain ⟨p, hp⟩ : ∃ p, K[n + j]? = some p := ⟨_, List.getElem?_eq_getElem (by rw [← Hord.out.2.2.2.2]; omega)⟩
          have hcell : wr.cell? ⟨g, n + j, none⟩ = some (.string p.1) := by
            have h := World.ownsRow.cells Hord.out.1 (g := g) rfl (n + j) (.string p.1) (by simp [strVs, hp])
            have h2 := hO.cell (p := ⟨g, n + j, none⟩) hgW (by show ¬ g = bk; omega)
            have ha : (⟨g, 0, none⟩ : Addr).add (n + j) = ⟨g, n + j, none⟩ := by unfold Addr.add; split <;> simp_all
            rw [h2, ← ha]
            exact h
          have hps : p.1.size ≤ maxLen := by have := (H.out.good.1 p (List.mem_of_getElem? hp)).2; unfold maxLen; omega
          have e1 : (j : Int) < (m : Int) - (n : Int) := by omega
          have Hp := Lib.hid hp
          clear hp hO
          go_wp2_with (at_delete; refine sm_del (t := 106) Tryd.underlying106 rfl _ _ rfl bk S2 _ rfl HS2.out.1 p.1 rfl hps ?_; intro w5 hm5 ht5)
          have Hm5 := Lib.hid (And.intro hm5 ht5)
          clear hm5 ht5
          go_roundg ((m - n) - (j + 1))
          case measure => have := Hg.out; omega
          case rel =>
            have hnd : ((K.take n ++ p :: K.drop (n + (j + 1))).map (·.1)).Nodup := by
              rw [← take_drop_next Hp.out]
              refine List.Sublist.nodup ?_ H.out.good.2
              refine List.Sublist.map _ ?_
              conv => rhs; rw [← List.take_append_drop n K]
              exact List.Sublist.append_left (List.drop_sublist_drop_left K (Nat.le_add_right n j)) _
            have h2 := HS2.out
            rw [take_drop_next Hp.out] at h2
            have hS2n : S2.Nodup := by obtain ⟨D, _, h, _⟩ := h2.1; exact h
            have hpS : p.1 ∈ S2 := (h2.2.1 p.1).2 (by simp)
            have hpn : p.1 ∉ (K.take n ++ K.drop (n + (j + 1))).map (·.1) := by
              rw [List.map_append, List.map_cons, List.nodup_append] at hnd
              rw [List.map_append, List.mem_append]
              rintro (h | h)
              · exact hnd.2.2 _ h _ (by simp) rfl
              · exact (List.nodup_cons.1 hnd.2.1).1 h
            refine ⟨j + 1, rfl, by go_num, by omega, ⟨S2.filter fun i => decide (i ≠ p.1), ?_, ?_, ?_⟩, HO.out.trans (.of_turned Hm5.out.2)⟩
            · have h := Hm5.out.1
              have e : (fun i => if i = p.1 then 0 else kindOf (K.take n ++ K.drop (n + j)) i) = kindOf (K.take n ++ K.drop (n + (j + 1))) := by
                funext i
                rw [take_drop_next Hp.out]
                exact kindOf_drop _ _ _ hnd i
              rw [e] at h
              exact h
            · intro x
              rw [List.mem_filter, h2.2.1 x, decide_eq_true_eq]
              simp only [List.map_append, List.map_cons, List.mem_append, List.mem_cons] at hpn ⊢
              constructor
              · rintro ⟨h | h | h, hne⟩
                · exact .inl h
                · exact absurd h hne
                · exact .inr h
              · rintro (h | h)
                · exact ⟨.inl h, fun e => hpn (.inl (e ▸ h))⟩
                · exact ⟨.inr (.inr h), fun e => hpn (.inr (e ▸ h))⟩
            · have h5 := filter_len hS2n hpS
              have h6 := h2.2.2
              simp only [List.length_append, List.length_cons] at h6 ⊢
              omega
        · obtain rfl : j = m - n := by omega
          have e1 : ¬ (((m - n : Nat) : Int) < (m : Int) - (n : Int)) := by omega
          have Hk : Hid (K.take n ++ K.drop (n + (m - n)) = K.take n) := by show _ = _; rw [List.drop_of_length_le (by rw [← Hord.out.2.2.2.2]; omega), List.append_nil]
          clear hO
          go_wp2_with fail
          refine bodyPost_end (results_none rfl _ _ _) rfl ?_
          have h := HS2.out
          rw [Hk.out] at h
          exact ⟨rfl, Hend.out _ _ ⟨S2, h.1, h.2.1, h.2.2⟩ HO.out rfl⟩
end Go.Proofs.YtgobcldecokppaaDoor

/- names: a walker in memory; names that are short. -/
namespace Go.Proofs.YtgobcldecokppaaDoor
open Go.RowKit Go.Maps

/-- A walker in block c. -/
structure WAt (w : World) (c bk bf bc : Nat) (ov : Value) (K : Known) (G : List ByteArray) (C : List Int) (n loops : Int) : Prop where
  sc : ScAt w c bk ov K
  c2 : w.cell? ⟨c, 2, none⟩ = some (.map (some bf))
  c3 : w.cell? ⟨c, 3, none⟩ = some (.map (some bc))
  c4 : w.cell? ⟨c, 4, none⟩ = some (.int .i64 n)
  c5 : w.cell? ⟨c, 5, none⟩ = some (.int .i64 loops)
  f4 : w.frozen? ⟨c, 4, none⟩ = false
  f5 : w.frozen? ⟨c, 5, none⟩ = false
  funcs : ∃ S F, SMap w bf S F ∧ (∀ x, x ∈ S ↔ x ∈ G) ∧ ∀ (i : Nat) x, G[i]? = some x → F x = (i : Int)
  calls : CMap w bc C
  few : (∀ i ∈ C, 0 ≤ i ∧ i < (G.length : Int)) ∧ C.length ≤ 32 ∧ G.length ≤ 32
  lts : bf < bk ∧ bk < bc ∧ bc < c
mutual
/-- All names are short. -/
def Ex.short : Ex → Prop
  | .mk _ _ s l => s.size ≤ 16 ∧ Ex.shorts l
def Ex.shorts : List Ex → Prop
  | [] => True
  | x :: l => Ex.short x ∧ Ex.shorts l
end
theorem Ex.short_eq (x : Ex) : x.short ↔ x.name.size ≤ 16 ∧ Ex.shorts x.args := by cases x; simp only [Ex.short, Ex.name, Ex.args]
theorem Ex.shorts_at {l : List Ex} (h : Ex.shorts l) {i : Nat} {x : Ex} (hx : l[i]? = some x) : x.short := by
  induction l generalizing i with
  | nil => simp at hx
  | cons y l ih =>
    simp only [Ex.shorts] at h
    cases i with
    | zero => simp at hx; subst hx; exact h.1
    | succ i => exact ih h.2 (by simpa using hx)
theorem size_of_nil {s : ByteArray} (h : s.toList = []) : s.size = 0 := by
  have h1 : s.size = s.toList.length := by rw [ByteArray.toList_eq s, Array.length_toList]; rfl
  rw [h1, h]; rfl
theorem Ex.size_of_own {x : Ex} {level : Int} (h : x.own level = 0) : x.name.size ≤ 16 := by
  unfold Ex.own at h
  split at h
  · omega
  split at h
  · omega
  rename_i hb
  split at h
  · omega
  rename_i hn
  cases hk : namedB x.kind
  · unfold Ex.badForm at hb
    rw [hk] at hb
    have : x.name.toList = [] := by
      by_cases e : x.name.toList = []
      · exact e
      · exfalso; apply hb; simp [e]
    rw [size_of_nil this]; omega
  · rw [hk] at hn
    have h2 : nameB x.name = true := by simpa using hn
    unfold nameB at h2
    simp only [Bool.and_eq_true, decide_eq_true_eq] at h2
    exact h2.1.1.1.1
mutual
theorem Ex.short_of_err (x : Ex) (level : Int) (h : x.err level = 0) : x.short := by
  cases x with
  | mk k n s l =>
    rw [Ex.err_eq] at h
    by_cases ho : Ex.own (.mk k n s l) level = 0
    · rw [if_neg (by rw [ho]; decide)] at h
      exact ⟨Ex.size_of_own ho, Ex.shorts_of_err l (level + 1) h⟩
    · rw [if_pos ho] at h; exact absurd h ho
theorem Ex.shorts_of_err (l : List Ex) (level : Int) (h : Ex.errs l level = 0) : Ex.shorts l := by
  cases l with
  | nil => trivial
  | cons x l =>
    simp only [Ex.errs] at h
    by_cases ho : x.err level = 0
    · rw [if_neg (by rw [ho]; decide)] at h
      exact ⟨Ex.short_of_err x level ho, Ex.shorts_of_err l level h⟩
    · rw [if_pos ho] at h; exact absurd h ho
end
end Go.Proofs.YtgobcldecokppaaDoor

namespace Go.Proofs.YtgobcldecokppaaDoor
open Go.RowKit Go.Maps

mutual
/-- A statement whose form is right, with all that it has. -/
def St.fine : St → Prop
  | .mk k s n a b body els cases => St.own (.mk k s n a b body els cases) = 0 ∧ a.short ∧ b.short ∧ St.fines body ∧ Cs.fines cases ∧ St.fines els
def St.fines : List St → Prop
  | [] => True
  | x :: l => St.fine x ∧ St.fines l
def Cs.fine : Cs → Prop
  | .mk _ body => St.fines body
def Cs.fines : List Cs → Prop
  | [] => True
  | x :: l => Cs.fine x ∧ Cs.fines l
end
theorem St.fine_eq (x : St) : x.fine ↔ x.own = 0 ∧ x.a.short ∧ x.b.short ∧ St.fines x.body ∧ Cs.fines x.cases ∧ St.fines x.els := by cases x; simp only [St.fine, St.a, St.b, St.body, St.cases, St.els]
theorem Cs.fine_eq (x : Cs) : x.fine ↔ St.fines x.body := by cases x; simp only [Cs.fine, Cs.body]
theorem St.fines_at {l : List St} (h : St.fines l) {i : Nat} {x : St} (hx : l[i]? = some x) : x.fine := by
  induction l generalizing i with
  | nil => simp at hx
  | cons y l ih =>
    simp only [St.fines] at h
    cases i with
    | zero => simp at hx; subst hx; exact h.1
    | succ i => exact ih h.2 (by simpa using hx)
theorem Cs.fines_at {l : List Cs} (h : Cs.fines l) {i : Nat} {x : Cs} (hx : l[i]? = some x) : x.fine := by
  induction l generalizing i with
  | nil => simp at hx
  | cons y l ih =>
    simp only [Cs.fines] at h
    cases i with
    | zero => simp at hx; subst hx; exact h.1
    | succ i => exact ih h.2 (by simpa using hx)
theorem after_two {r q : Nat × Int} (h : (after r q).2 = 0) : r.2 = 0 ∧ q.2 = 0 := by
  have h1 := after_zero2 h
  rw [after_ok h1] at h
  exact ⟨h1, h⟩
theorem Ex.short_of_zero {x : Ex} (h : x.zero = true) : x.short := by
  rw [Ex.short_eq]
  unfold Ex.zero at h
  simp only [Bool.and_eq_true, beq_iff_eq] at h
  have : x.args = [] := List.eq_nil_of_length_eq_zero h.2
  rw [this]
  exact ⟨by rw [h.1.2]; omega, trivial⟩
/-- What the form says of the fields that do not count. -/
theorem St.own_formed {x : St} (h : x.own = 0) : x.formed = true ∧ (cntName x.kind = true → nameB x.name = true) ∧ (x.kind = 10 → x.a.kind = 4) := by
  unfold St.own at h
  split at h
  · omega
  rename_i h1
  split at h
  · omega
  rename_i h2
  split at h
  · omega
  split at h
  · omega
  rename_i h4
  refine ⟨by simpa using h1, fun e => by rw [e] at h2; simpa using h2, fun e => ?_⟩
  by_cases h5 : x.a.kind = 4
  · exact h5
  · exact absurd ⟨e, h5⟩ h4
theorem St.formed_parts {x : St} (h : x.formed = true) : knownS x.kind = true ∧ (cntName x.kind = true ∨ x.name.toList = []) ∧ (cntA x.kind = true ∨ x.a.zero = true) ∧ (cntB x.kind = true ∨ x.b.zero = true) ∧ (cntBody x.kind = true ∨ x.body = []) ∧ (cntElse x.kind = true ∨ x.els = []) ∧ (cntCases x.kind = true ∨ x.cases = []) := by
  unfold St.formed at h
  simp only [Bool.and_eq_true, Bool.or_eq_true, decide_eq_true_eq, List.length_eq_zero_iff] at h
  obtain ⟨⟨⟨⟨⟨⟨⟨h1, h2⟩, h3⟩, h4⟩, h5⟩, h6⟩, h7⟩, h8⟩ := h
  exact ⟨h1, h2, h4, h5, h6, h7, h8⟩
theorem St.size_of_own {x : St} (h : x.own = 0) : x.name.size ≤ 16 := by
  obtain ⟨h1, h2, _⟩ := St.own_formed h
  rcases (St.formed_parts h1).2.1 with e | e
  · have h3 := h2 e
    unfold nameB at h3
    simp only [Bool.and_eq_true, decide_eq_true_eq] at h3
    exact h3.1.1.1.1
  · rw [size_of_nil e]; omega
theorem St.front_parts {x : St} {level : Int} (h : x.front level = 0) : x.own = 0 ∧ x.a.short ∧ x.b.short := by
  unfold St.front at h
  split at h
  · omega
  split at h
  · rename_i h1; exact absurd h h1
  rename_i h1
  have ho : x.own = 0 := by simpa using h1
  have hp := St.formed_parts (St.own_formed ho).1
  split at h
  · rename_i h2; exact absurd h h2.2
  rename_i h2
  split at h
  · rename_i h3; exact absurd h h3.2
  rename_i h3
  refine ⟨ho, ?_, ?_⟩
  · rcases hp.2.2.1 with e | e
    · exact Ex.short_of_err _ (level + 1) (by by_cases e2 : x.a.err (level + 1) = 0; exact e2; exact absurd ⟨e, e2⟩ h2)
    · exact Ex.short_of_zero e
  · rcases hp.2.2.2.1 with e | e
    · exact Ex.short_of_err _ (level + 1) (by by_cases e2 : x.b.err (level + 1) = 0; exact e2; exact absurd ⟨e, e2⟩ h3)
    · exact Ex.short_of_zero e
mutual
theorem St.fine_of_chk (x : St) (level : Int) (h : (x.chk level).2 = 0) : x.fine := by
  cases x with
  | mk k s n a b body els cases =>
    simp only [St.chk] at h
    obtain ⟨h1, h2⟩ := after_two h
    obtain ⟨h3, h4⟩ := after_two h2
    obtain ⟨h5, h6⟩ := after_two h4
    obtain ⟨p1, p2, p3⟩ := St.front_parts h1
    exact ⟨p1, p2, p3, St.fines_of_chks body _ h3, Cs.fines_of_chks cases _ h5, St.fines_of_chks els _ h6⟩
theorem St.fines_of_chks (l : List St) (level : Int) (h : (St.chks l level).2 = 0) : St.fines l := by
  cases l with
  | nil => trivial
  | cons x l =>
    simp only [St.chks] at h
    obtain ⟨h1, h2⟩ := after_two h
    exact ⟨St.fine_of_chk x level h1, St.fines_of_chks l level h2⟩
theorem Cs.fine_of_chk (x : Cs) (level : Int) (h : (x.chk level).2 = 0) : x.fine := by
  cases x with
  | mk n body =>
    simp only [Cs.chk] at h
    exact St.fines_of_chks body level h
theorem Cs.fines_of_chks (l : List Cs) (level : Int) (h : (Cs.chks l level).2 = 0) : Cs.fines l := by
  cases l with
  | nil => trivial
  | cons x l =>
    simp only [Cs.chks] at h
    obtain ⟨h1, h2⟩ := after_two h
    exact ⟨Cs.fine_of_chk x level h1, Cs.fines_of_chks l level h2⟩
end
end Go.Proofs.YtgobcldecokppaaDoor
