/- Maps of names to numbers: laws for the walk. -/
import Derived.Test.YtneibcpgengdnaaTrCheck
import Derived.Maps.OwnSet
import Derived.StringKeys
import Derived.Deep.Upon
namespace Go.Proofs.Ytneibcpgengdnaa
open Go.RowKit Go.Maps

instance decBytes : DecidableEq ByteArray := fun a b => if h : a.data = b.data then .isTrue (by cases a; cases b; simp_all) else .isFalse (fun e => h (by rw [e]))
instance memBytes (x : ByteArray) (S : List ByteArray) : Decidable (x ∈ S) := @List.instDecidableMemOfLawfulBEq ByteArray (@instBEqOfDecidableEq _ decBytes) inferInstance x S
theorem filter_len {S : List ByteArray} {y : ByteArray} (h : S.Nodup) (hy : y ∈ S) : (S.filter fun i => decide (i ≠ y)).length + 1 = S.length := by
  induction S with
  | nil => cases hy
  | cons x S ih =>
    obtain ⟨h1, h2⟩ := List.nodup_cons.1 h
    rcases List.mem_cons.1 hy with rfl | hy
    · rw [List.filter_cons_of_neg (by simp), List.filter_eq_self.2 (fun a ha => by rw [decide_eq_true_eq]; intro e; subst e; exact h1 ha)]
      rfl
    · rw [List.filter_cons_of_pos (by rw [decide_eq_true_eq]; intro e; subst e; exact h1 hy)]
      have := ih h2 hy
      simp only [List.length_cons]
      omega
def keyS (s : ByteArray) : Lit := .string s.data.toList
theorem keyS_inj {s t : ByteArray} (h : keyS s = keyS t) : s = t := by
  unfold keyS at h
  injection h with h
  have : s.data = t.data := Array.toList_inj.1 h
  cases s; cases t; simp_all
theorem isKeyS (s : ByteArray) : WideAt.IsKeyLit (keyS s) := by simp [WideAt.IsKeyLit, keyS]
theorem Try.strKey : Keyed Try.prog 9 := string_keyed Try.underlying9
def numD : Value → Option (DataW Unit × List MemPlace)
  | .int .i64 x => some (.lit (.int .i64 x), [])
  | _ => none
theorem numD_inv {v : Value} {x : Int} {p : List MemPlace} (h : numD v = some (.lit (.int .i64 x), p)) : v = .int .i64 x := by
  unfold numD at h
  split at h
  · simp at h; rw [h.1]
  · cases h
theorem owns_tight {w : World} {P : Program} {k : TypeId} {R : Value → Option (DataW Unit × List MemPlace)} {b n : Nat} {D : DataW Unit} (h : w.ownsMap P k R b n D) : w.ownsMap P k R b (Maps.size D) D := by
  obtain ⟨es, clock, hb, F, hs, rfl⟩ := h
  exact ⟨es, clock, hb, F, by simp [Maps.size, length_sorted], rfl⟩
theorem hasS_put {D : DataW Unit} (hD : IsMap D) (x : ByteArray) (d : DataW Unit) (kl : Lit) : Maps.has (D.put (keyS x) d) kl = true ↔ kl = keyS x ∨ Maps.has D kl = true := by
  by_cases e : kl = keyS x
  · subst e; simp [has_put_same hD (isKeyS x)]
  · rw [has_put_other e]; simp [e]
theorem hasS_del {D : DataW Unit} (x : ByteArray) (kl : Lit) : Maps.has (D.del (keyS x)) kl = true ↔ kl ≠ keyS x ∧ Maps.has D kl = true := by
  by_cases e : kl = keyS x
  · subst e; simp [has_del_same]
  · rw [has_del_other e]; simp [e]
def insS (S : List ByteArray) (x : ByteArray) : List ByteArray := if x ∈ S then S else x :: S
theorem insS_mem (S : List ByteArray) (x y : ByteArray) : y ∈ insS S x ↔ y = x ∨ y ∈ S := by
  unfold insS; split
  · rename_i h; constructor
    · intro h; exact .inr h
    · rintro (rfl | h2)
      · exact h
      · exact h2
  · simp
theorem insS_nodup {S : List ByteArray} (h : S.Nodup) (x : ByteArray) : (insS S x).Nodup := by
  unfold insS; split
  · exact h
  · rename_i hx; exact List.nodup_cons.2 ⟨hx, h⟩
/-- Block b of w is a map of names to numbers: its keys S, its numbers F (0 where there is none). -/
def SMap (w : World) (b : Nat) (S : List ByteArray) (F : ByteArray → Int) : Prop :=
  ∃ D : DataW Unit, w.ownsMap Try.prog 9 numD b S.length D ∧ S.Nodup ∧ Maps.size D = S.length ∧ (∀ kl, Maps.has D kl = true ↔ ∃ x ∈ S, kl = keyS x) ∧ ∀ y, D.atKey (keyS y) (.lit (.int .i64 0)) = .lit (.int .i64 (F y))
theorem SMap.made (w : World) : SMap (w.alloc (.map #[] 0)) w.heap.size [] (fun _ => 0) :=
  ⟨.map [], World.ownsMap_made w _ _ _, List.nodup_nil, rfl, fun kl => by simp [Maps.has], fun _ => rfl⟩
theorem SMap.lt {w : World} {b : Nat} {S : List ByteArray} {F : ByteArray → Int} (h : SMap w b S F) : b < w.heap.size := by obtain ⟨D, h, _⟩ := h; exact h.lt
theorem SMap.at_block {w w' : World} {b : Nat} {S : List ByteArray} {F : ByteArray → Int} (h : SMap w b S F) (hb : w'.heap[b]? = w.heap[b]?) : SMap w' b S F := by
  obtain ⟨D, ⟨es, clock, hh, r2⟩, r⟩ := h
  exact ⟨D, ⟨es, clock, hb.trans hh, r2⟩, r⟩
theorem SMap.later {w w' : World} {b B : Nat} {S : List ByteArray} {F : ByteArray → Int} (h : SMap w b S F) (hb : Below B w w') (hB : b < B) : SMap w' b S F := h.at_block (hb.block b hB)
theorem SMap.oth {T : Nat → Prop} {w w' : World} {b : Nat} {S : List ByteArray} {F : ByteArray → Int} (h : SMap w b S F) (hO : Oth T w w') (hb : ¬ T b) : SMap w' b S F := h.at_block (hO.block b h.lt hb)
theorem Oth.of_grown {w w' : World} {b : Nat} (h : w.grownBy w' (some b)) : Oth (· = b) w w' := ⟨h.os, h.tape, h.output, h.size, fun i hi hc => h.block i hi (by simpa using hc)⟩

section
set_option maxRecDepth 100000
variable {w : World} {ops : Array Oper} {rest : List Oper} {o : Oper} {a : Act} {Q : Exit → Act → World → Prop}
theorem sm_look {t e : TypeId} (ht : Try.prog.underlying t = some (.map 9 e)) (hz0 : (zeroValue e).run Try.prog w = .ok (.int .i64 0) w) (hg : o.guard = none) (m x : Operand) (hop : o.op = Op.lookup t m x false) (b : Nat) (S : List ByteArray) (F : ByteArray → Int) (hm : a.eval m = .map (some b)) (hown : SMap w b S F) (y : ByteArray) (hx : a.eval x = .string y)
    (hs : y.size ≤ maxLen) (z : Int) (hz : F y = z) (hK : wpList Try.prog ops Q rest (a.put o.dst (.int .i64 z)) w) : wpList Try.prog ops Q (o :: rest) a w := by
  obtain ⟨D, h, _, _, _, hF⟩ := hown
  refine wpList_plain hg fun K' hK' => ?_
  obtain ⟨v, ps, hrun, hv⟩ := h.lookup Try.strKey ht (z := .int .i64 0) hz0 (zd := .lit (.int .i64 0)) (zp := []) rfl (WideMaps.keyOf_string_mk Try.underlying9 hs)
  have hv : numD v = some (D.atKey (keyS y) (.lit (.int .i64 0)), ps) := hv
  rw [hF y, hz] at hv
  have e := numD_inv hv
  subst e
  unfold Oper.wp
  simp [execOp, hop, hm, hx, hrun, Result.andThen]
  exact hK' _ _ hK
theorem sm_look_ok {t e : TypeId} (ht : Try.prog.underlying t = some (.map 9 e)) (hz0 : (zeroValue e).run Try.prog w = .ok (.int .i64 0) w) (hg : o.guard = none) (m x : Operand) (hop : o.op = Op.lookup t m x true) (b : Nat) (S : List ByteArray) (F : ByteArray → Int) (hm : a.eval m = .map (some b)) (hown : SMap w b S F) (y : ByteArray) (hx : a.eval x = .string y)
    (hs : y.size ≤ maxLen) (z : Int) (hz : F y = z) (r : Bool) (hr : decide (y ∈ S) = r) (hK : wpList Try.prog ops Q rest (a.put o.dst (.tuple #[.int .i64 z, .bool r])) w) : wpList Try.prog ops Q (o :: rest) a w := by
  obtain ⟨D, h, _, _, hh, hF⟩ := hown
  refine wpList_lookup_own_ok w hg m x t hop 9 e Try.strKey ht numD hz0 (.lit (.int .i64 0)) [] rfl b _ D hm h _ _ hx (WideMaps.keyOf_string_mk Try.underlying9 hs) ?_
  intro v ps hv
  have hv : numD v = some (D.atKey (keyS y) (.lit (.int .i64 0)), ps) := hv
  rw [hF y, hz] at hv
  have e1 := numD_inv hv
  subst e1
  have e : Maps.has D (.string y.data.toList) = r := by
    rw [← hr, Bool.eq_iff_iff, hh]
    simp only [decide_eq_true_eq]
    constructor
    · rintro ⟨x, hx, e⟩
      rw [keyS_inj (show keyS y = keyS x from e)]; exact hx
    · intro h; exact ⟨y, h, rfl⟩
  rw [e]
  exact hK
theorem sm_put {t e : TypeId} (ht : Try.prog.underlying t = some (.map 9 e)) (hg : o.guard = none) (m x v : Operand) (hop : o.op = Op.mapUpdate t m x v) (b : Nat) (S : List ByteArray) (F : ByteArray → Int) (hm : a.eval m = .map (some b)) (hown : SMap w b S F) (y : ByteArray) (hx : a.eval x = .string y) (z : Int) (hv : a.eval v = .int .i64 z)
    (hs : y.size ≤ maxLen) (hl : S.length ≤ 1000000) (hK : ∀ w', SMap w' b (insS S y) (fun i => if i = y then z else F i) → w.grownBy w' (some b) → wpList Try.prog ops Q rest (a.put o.dst undef) w') : wpList Try.prog ops Q (o :: rest) a w := by
  obtain ⟨D, h, hn, hsz0, hh, hF⟩ := hown
  refine wpList_mapUpdate_own w hg m x v _ hop 9 e Try.strKey ht _ b _ D hm h (by unfold maxLen; omega) _ _ _ hx hv (WideMaps.keyOf_string_mk Try.underlying9 hs) (.lit (.int .i64 z)) [] rfl ?_
  intro w' h1 h2
  have h1 : w'.ownsMap Try.prog 9 numD b (S.length + 1) (D.put (keyS y) (.lit (.int .i64 z))) := h1
  have hsz : Maps.size (D.put (keyS y) (.lit (.int .i64 z))) = (insS S y).length := by
    rw [size_put (h.tidy Try.strKey), hsz0]
    unfold insS
    by_cases hy : y ∈ S
    · rw [if_pos ((hh _).2 ⟨y, hy, rfl⟩), if_pos hy]
    · rw [if_neg (fun h => hy (by obtain ⟨z, hz, e⟩ := (hh _).1 h; rw [keyS_inj e]; exact hz)), if_neg hy]; rfl
  refine hK w' ⟨D.put (keyS y) (.lit (.int .i64 z)), by rw [← hsz]; exact owns_tight h1, insS_nodup hn y, hsz, fun kl => ?_, fun u => ?_⟩ h2
  · rw [hasS_put h.isMap, hh]
    constructor
    · rintro (rfl | ⟨x, hx, rfl⟩)
      · exact ⟨y, (insS_mem _ _ _).2 (.inl rfl), rfl⟩
      · exact ⟨x, (insS_mem _ _ _).2 (.inr hx), rfl⟩
    · rintro ⟨x, hx, rfl⟩
      rcases (insS_mem _ _ _).1 hx with rfl | hx
      · exact .inl rfl
      · exact .inr ⟨x, hx, rfl⟩
  · by_cases e : u = y
    · subst e; simp only [if_true]; exact atKey_put_same h.isMap (isKeyS _) _ _
    · simp only [if_neg e]; rw [atKey_put_other (fun e1 => e (keyS_inj e1))]; exact hF u
theorem sm_del {t e : TypeId} (ht : Try.prog.underlying t = some (.map 9 e)) (hg : o.guard = none) (m x : Operand) (hop : o.op = Op.call { callee := Callee.builtin Builtin.delete, args := #[m, x], argTypes := #[t, 9] }) (b : Nat) (S : List ByteArray) (F : ByteArray → Int) (hm : a.eval m = .map (some b)) (hown : SMap w b S F) (y : ByteArray) (hx : a.eval x = .string y)
    (hs : y.size ≤ maxLen) (hK : ∀ w', SMap w' b (S.filter fun i => decide (i ≠ y)) (fun i => if i = y then 0 else F i) → w.mapTurned w' b → wpList Try.prog ops Q rest (a.put o.dst (.tuple #[])) w') : wpList Try.prog ops Q (o :: rest) a w := by
  obtain ⟨D, h, hn, hsz0, hh, hF⟩ := hown
  refine wpList_delete_own w hg m x t 9 hop e Try.strKey ht numD b _ D hm h _ _ hx (WideMaps.keyOf_string_mk Try.underlying9 hs) ?_
  intro w' h1 h2
  have h1 : w'.ownsMap Try.prog 9 numD b S.length (D.del (keyS y)) := h1
  have hmem : ∀ kl, Maps.has (D.del (keyS y)) kl = true ↔ ∃ x ∈ S.filter (fun i => decide (i ≠ y)), kl = keyS x := by
    intro kl
    rw [hasS_del, hh]
    constructor
    · rintro ⟨hne, x, hx, rfl⟩
      exact ⟨x, List.mem_filter.2 ⟨hx, decide_eq_true (fun e => hne (by rw [e]))⟩, rfl⟩
    · rintro ⟨x, hx, rfl⟩
      obtain ⟨h1, h2⟩ := List.mem_filter.1 hx
      exact ⟨fun e => (of_decide_eq_true h2) (keyS_inj e), x, h1, rfl⟩
  have hsz : Maps.size (D.del (keyS y)) = (S.filter fun i => decide (i ≠ y)).length := by
    have h3 := size_del (k := keyS y) (h.tidy Try.strKey)
    rw [hsz0] at h3
    by_cases hy : y ∈ S
    · rw [if_pos ((hh _).2 ⟨y, hy, rfl⟩)] at h3
      have h5 := filter_len hn hy
      omega
    · rw [if_neg (fun h => hy (by obtain ⟨z, hz, e⟩ := (hh _).1 h; rw [keyS_inj e]; exact hz))] at h3
      have h5 : S.filter (fun i => decide (i ≠ y)) = S := List.filter_eq_self.2 fun a ha => decide_eq_true (fun e => hy (e ▸ ha))
      rw [h5]; omega
  refine hK w' ⟨D.del (keyS y), by rw [← hsz]; exact owns_tight h1, hn.filter _, hsz, hmem, fun u => ?_⟩ h2
  by_cases e : u = y
  · subst e; simp only [if_true]; exact atKey_del_same _
  · simp only [if_neg e]; rw [atKey_del_other (fun e1 => e (keyS_inj e1))]; exact hF u
end
end Go.Proofs.Ytneibcpgengdnaa
