/- names: a scope, and what it comes to know. -/
import Derived.Test.YtneibcpgengdnaaNmNeed
namespace Go.Proofs.Ytneibcpgengdnaa
open Go.RowKit Go.Maps

theorem Try.infoStr : (Try.prog.info? 9).map (fun i => (i.zero, i.size, i.bytes)) = some (some (.string ⟨#[]⟩), 1, 16) := by kernel_rfl
def strVs (l : List ByteArray) : List Value := l.map Value.string
def OwnStrs (w : World) (B : Nat) (v : Value) (l : List ByteArray) : Prop := w.ownsRow B 9 1 v l.length (strVs l)
/-- 'out = append(out, y)', out a list of texts of the call's own. -/
theorem append_str {ops : Array Oper} {rest : List Oper} {o : Oper} {a : Act} {Q : Exit → Act → World → Prop} {w : World} (hgd : o.guard = none) (s x : Operand)
    (ho : o.op = .call { callee := .builtin .append, args := #[s, x], argTypes := #[88, 88] })
    (B : Nat) (v : Value) (l : List ByteArray) (hs : a.eval s = v) (hown : OwnStrs w B v l) (y : ByteArray) (hx : a.eval x = .slice (some ⟨w.heap.size, 0, none⟩) 1 1)
    (hl : l.length ≤ 1000000000000) (hB : B ≤ w.heap.size)
    (h : ∀ v' w', OwnStrs w' B v' (l ++ [y]) → (w.alloc (.cells #[.string y] 9)).grownBy w' v.ownBlock → Fresh (w.alloc (.cells #[.string y] 9)) v v' → (∀ C w0, Below C w0 w → C ≤ B → Below C w0 w') → wpList Try.prog ops Q rest (a.put o.dst v') w') :
    wpList Try.prog ops Q (o :: rest) a (w.alloc (.cells #[.string y] 9)) := by
  refine append_gen hgd s x 88 ho Try.underlying88 Try.infoStr rfl (by decide) B v l.length (strVs l) hs (World.ownsRow.alloc hown _) _ 1 [.string y] hx (sliceIn_new w [.string y] 1 1 9 rfl (by decide)) ?_ ?_ ?_ ?_ ?_
  · intro u hu; simp at hu; subst hu; rfl
  · unfold maxLen; omega
  · omega
  · simp; omega
  · intro v' w' h1 h2 h3 h4
    exact h v' w' (by unfold OwnStrs strVs at *; simpa using h1) h2 h3 fun C w0 hb hC => h4 C w0 (hb.alloc (by omega) _) hC

/-- A scope in block c: its map in block bk, its list of names is ov. -/
structure ScAt (w : World) (c bk : Nat) (ov : Value) (K : Known) : Prop where
  c0 : w.cell? ⟨c, 0, none⟩ = some (.map (some bk))
  c1 : w.cell? ⟨c, 1, none⟩ = some ov
  f1 : w.frozen? ⟨c, 1, none⟩ = false
  kinds : ∃ S, SMap w bk S (kindOf K) ∧ (∀ x, x ∈ S ↔ x ∈ K.map (·.1)) ∧ S.length = K.length
  order : OwnStrs w (c + 1) ov (K.map (·.1))
  good : (∀ p ∈ K, p.2 ≠ 0 ∧ p.1.size ≤ 16) ∧ (K.map (·.1)).Nodup
  lt : bk < c
/-- What a walk may write: a scope's own blocks. -/
def ScT (c bk : Nat) (ov : Value) (k : Nat) : Prop := k = c ∨ k = bk ∨ ov.ownBlock = some k
def ScNew (W : World) (ov ov' : Value) : Prop := ∀ k, k < W.heap.size → ov'.ownBlock = some k → ov.ownBlock = some k
/-- A scope's block stays as it is but for the list. -/
def ScKeep (W W' : World) (c : Nat) : Prop := ∀ o, o ≠ 1 → W'.cell? ⟨c, o, none⟩ = W.cell? ⟨c, o, none⟩ ∧ W'.frozen? ⟨c, o, none⟩ = W.frozen? ⟨c, o, none⟩
theorem ScKeep.refl (W : World) (c : Nat) : ScKeep W W c := fun _ _ => ⟨rfl, rfl⟩
theorem ScKeep.set {W W' : World} {c : Nat} (h : W'.heap[c]? = W.heap[c]?) (v : Value) : ScKeep W (W'.setCell ⟨c, 1, none⟩ v) c := fun o ho =>
  ⟨(World.cell?_setCell_other _ _ _ _ (by intro e; injection e with e1 e2; exact ho e2.symm)).trans (World.cell?_of_block h), (World.frozen?_setCell _ _ _ _).trans (World.frozen?_of_block h)⟩
theorem OwnStrs.form {w : World} {B : Nat} {v : Value} {l : List ByteArray} (h : OwnStrs w B v l) : ∃ a n cap, v = .slice a n cap := by
  obtain ⟨_, a, cap, e, _⟩ := SliceIn.of_owns h
  exact ⟨a, _, cap, e⟩
/-- What an append leaves as it was. -/
theorem addKeep {w w4 : World} {o : Obj} {ov v4 : Value} {c : Nat} {l : List ByteArray} {V0 V1 : Value} (hg : (w.alloc o).grownBy w4 ov.ownBlock) (_h : OwnStrs w4 (c + 1) v4 l) (d0 : w.cell? ⟨c, 0, none⟩ = some V0) (d1 : w.cell? ⟨c, 1, none⟩ = some V1) (df : w.frozen? ⟨c, 1, none⟩ = false)
    (hov : ∀ k, ov.ownBlock = some k → c + 1 ≤ k ∧ k < w.heap.size) : w4.cell? ⟨c, 0, none⟩ = some V0 ∧ w4.cell? ⟨c, 1, none⟩ = some V1 ∧ w4.frozen? ⟨c, 1, none⟩ = false ∧ ∀ k, k ≤ c → w4.heap[k]? = w.heap[k]? := by
  have q : c < w.heap.size := block_lt_of_cell d0
  have hb : ∀ k, k ≤ c → w4.heap[k]? = w.heap[k]? := fun k hk => by
    have e1 := hg.block k (by simp; omega) (fun e => by have := (hov k e.symm).1; omega)
    rw [e1]
    exact ((Below.refl w.heap.size w).alloc (Nat.le_refl _) o).block k (by omega)
  exact ⟨(World.cell?_of_block (hb c (Nat.le_refl _))).trans d0, (World.cell?_of_block (hb c (Nat.le_refl _))).trans d1, (World.frozen?_of_block (hb c (Nat.le_refl _))).trans df, hb⟩
set_option maxRecDepth 100000 in
set_option maxHeartbeats 2000000 in
theorem add_any (c bk : Nat) (ov : Value) (K : Known) (s : ByteArray) (k : Int) (W : World) (h : ScAt W c bk ov K) (hs : s.size ≤ 16) (hk : k ≠ 0) (hl : K.length ≤ 100000) :
    Calls Try.prog 40 #[ptrV c, .string s, .int .i64 k] W (fun e W' => (kindOf K s ≠ 0 ∧ e = .returned (.bool false) ∧ W' = W) ∨
      (kindOf K s = 0 ∧ e = .returned (.bool true) ∧ ∃ ov', ScAt W' c bk ov' (K ++ [(s, k)]) ∧ Oth (ScT c bk ov) W W' ∧ ScNew W ov ov' ∧ ScKeep W W' c)) := by
  have H := Lib.hid h
  obtain ⟨S, hm, hS, hSl⟩ := h.kinds
  have Hm := Lib.hid (And.intro hm hS)
  have h0 := h.c0
  have h1 := h.c1
  have hf1 := h.f1
  have hlt := h.lt
  have q := block_lt_of_cell h0
  have hs2 : s.size ≤ maxLen := by unfold maxLen; omega
  obtain ⟨z, hz⟩ : ∃ z, z = kindOf K s := ⟨_, rfl⟩
  have Hz := Lib.hid hz
  rw [← hz]
  clear hm hS h hz
  go_enter Try.func40, Try.ntmps40
  go_upto_if 13 with (at_lookup; refine sm_look (t := 87) Try.underlying87 (by kernel_rfl) rfl _ _ rfl bk S (kindOf K) rfl Hm.out.1 s rfl hs2 z Hz.out.symm ?_)
  by_cases hz0 : z = 0
  · subst hz0
    have Hnot : Hid (s ∉ S) := fun h => (kindOf_zero fun p hp => (H.out.good.1 p hp).1).1 Hz.out.symm ((Hm.out.2 s).1 h)
    have hSl2 : S.length ≤ 1000000 := by omega
    go_upto_region 4 with (at_mapUpdate; refine sm_put (t := 87) Try.underlying87 rfl _ _ _ rfl bk S (kindOf K) rfl Hm.out.1 s rfl k rfl hs2 hSl2 ?_; intro w2 hm2 hg2)
    have hcb : ∀ {i : Nat}, i < W.heap.size → i ≠ bk → w2.heap[i]? = W.heap[i]? := fun hi hne => hg2.block _ hi (by simpa using hne)
    have qc : c < W.heap.size := q
    have d0 : w2.cell? ⟨c, 0, none⟩ = some (.map (some bk)) := (World.cell?_of_block (hcb (i := c) qc (by omega))).trans h0
    have d1 : w2.cell? ⟨c, 1, none⟩ = some ov := (World.cell?_of_block (hcb (i := c) qc (by omega))).trans h1
    have df : w2.frozen? ⟨c, 1, none⟩ = false := (World.frozen?_of_block (hcb (i := c) qc (by omega))).trans hf1
    have hord2 : OwnStrs w2 (c + 1) ov (K.map (·.1)) := H.out.order.kept hg2 (.inr fun e => by have := (World.ownsRow.lt H.out.order bk e).1; omega)
    have qs := hg2.size
    have hlm : (K.map (·.1)).length ≤ 1000000000000 := by simp; omega
    have H2 := Lib.hid (And.intro hm2 (And.intro hg2 hord2))
    have Hd := Lib.hid (And.intro d0 (And.intro d1 df))
    clear h0 h1 hf1 hcb hm2 hg2 hord2
    have qc2 : c < w2.heap.size := by omega
    go_upto_region 5 with (at_builtin; refine append_str rfl _ _ rfl (c + 1) ov (K.map (·.1)) rfl H2.out.2.2 s rfl hlm (by omega) ?_; intro v4 w4 hord4 hg4 hfr4 hb4; obtain ⟨a4, n4, c4, rfl⟩ := OwnStrs.form hord4; have d2 := addKeep hg4 hord4 d0 d1 df (World.ownsRow.lt H2.out.2.2))
    obtain ⟨-, d1', df', -⟩ := d2
    have H4 := Lib.hid (And.intro hord4 (And.intro hg4 (And.intro hfr4 hb4)))
    clear d0 d1 df hord4 hg4 hfr4 hb4 d1' df'
    obtain ⟨w5, hw5⟩ : ∃ w5, w5 = w4.setCell ⟨c, 1, none⟩ (.slice a4 n4 c4) := ⟨_, rfl⟩
    rw [← hw5]
    have HW5 := Lib.hid hw5
    clear hw5
    go_wp2_with fail
    go_ret
    obtain ⟨e0, e1, ef, eb⟩ := addKeep H4.out.2.1 H4.out.1 Hd.out.1 Hd.out.2.1 Hd.out.2.2 (World.ownsRow.lt H2.out.2.2)
    have hz : kindOf K s = 0 := Hz.out.symm
    have hgood := H.out.good
    have hF : (fun i => if i = s then k else kindOf K i) = kindOf (K ++ [(s, k)]) := by
      funext i
      rw [kindOf_append K _ i fun p hp => (hgood.1 p hp).1]
      by_cases e : i = s
      · subst e; simp [hz, kindOf]
      · have e2 : s ≠ i := fun h => e h.symm
        simp only [if_neg e, kindOf, if_neg e2]
        split
        · rfl
        · rename_i h; simpa using h
    have hnK : s ∉ K.map (·.1) := (kindOf_zero fun p hp => (hgood.1 p hp).1).1 hz
    have qW : c < W.heap.size := block_lt_of_cell H.out.c0
    have q4 := H4.out.2.1.size
    have hother : ∀ j, j ≠ c → w5.heap[j]? = w4.heap[j]? := fun j hj => by rw [HW5.out]; exact Below.heap_setCell _ _ _ _ (fun e => hj (by rw [e]))
    refine ⟨rfl, .slice a4 n4 c4, ⟨?_, ?_, ?_, ⟨insS S s, ?_, ?_, ?_⟩, ?_, ⟨?_, ?_⟩, hlt⟩, ?_, ?_, ?_⟩
    · rw [HW5.out]; exact (World.cell?_setCell_other _ _ _ _ (by simp)).trans e0
    · rw [HW5.out]; exact World.cell?_setCell_same' _ _ _ (by rw [e1]; rfl)
    · rw [HW5.out]; exact (World.frozen?_setCell _ _ _ _).trans ef
    · rw [← hF]
      exact H2.out.1.at_block ((hother bk (by omega)).trans (eb bk (by omega)))
    · intro x
      rw [insS_mem, Hm.out.2 x]
      simp only [List.map_append, List.map_cons, List.map_nil, List.mem_append, List.mem_cons, List.not_mem_nil, or_false]
      exact Or.comm
    · unfold insS
      rw [if_neg Hnot.out]
      simp [hSl]
    · have h := H4.out.1
      rw [HW5.out]
      unfold OwnStrs at *
      rw [List.map_append]
      exact ownsRow_setCell_below h (by show c < c + 1; omega) _
    · intro p hp
      rcases List.mem_append.1 hp with h | h
      · exact hgood.1 p h
      · simp at h; subst h; exact ⟨hk, hs⟩
    · rw [List.map_append, List.nodup_append]
      refine ⟨hgood.2, by simp, ?_⟩
      intro x hx y hy e
      simp at hy
      subst hy; subst e; exact hnK hx
    · refine ⟨?_, ?_, ?_, ?_, ?_⟩
      · rw [HW5.out]; exact H4.out.2.1.os.trans H2.out.2.1.os
      · rw [HW5.out]; exact H4.out.2.1.tape.trans H2.out.2.1.tape
      · rw [HW5.out]; exact H4.out.2.1.output.trans H2.out.2.1.output
      · rw [HW5.out, size_set]; simp at q4; omega
      · intro j hj hT
        have h1 : j ≠ c := fun e => hT (.inl e)
        have h2 : j ≠ bk := fun e => hT (.inr (.inl e))
        have h3 : ov.ownBlock ≠ some j := fun e => hT (.inr (.inr e))
        rw [hother j h1, H4.out.2.1.block j (by simp; omega) (fun e => h3 e.symm), ((Below.refl w2.heap.size w2).alloc (Nat.le_refl _) _).block j (by omega)]
        exact H2.out.2.1.block j hj (by simpa using h2)
    · intro j hj he
      by_cases h : ov.ownBlock = some j
      · exact h
      · exact absurd he (H4.out.2.2.1 j (by simp; omega) h)
    · rw [HW5.out]
      refine ScKeep.set ?_ _
      rw [eb c (Nat.le_refl _)]
      exact H2.out.2.1.block c qW (by simp; omega)
  · have hq : (z != 0) = true := by simp [hz0]
    have Hz0 := Lib.hid hz0
    clear hz0
    go_wp2_with fail
    go_ret
    exact .inl ⟨Hz0.out, rfl, rfl⟩
end Go.Proofs.Ytneibcpgengdnaa
