/- names: what a walk over statements may change, and what stays. -/
import Derived.Test.YtneibcpgengdnaaNmFirst
namespace Go.Proofs.Ytneibcpgengdnaa
open Go.RowKit Go.Maps

mutual
theorem St.nchk_le (K : Known) (G : List ByteArray) (loops : Int) (x : St) : (x.nchk K G loops).1 ≤ x.total := by
  cases x with
  | mk k s n a b body els cases =>
    simp only [St.nchk, St.total]
    have h0 := St.nchks_le (K ++ [(s, 4)]) G (loops + 1) body
    have h1 := St.nchks_le (St.nadd K (.mk k s n a b body els cases)) G loops body
    have h2 := Cs.nchks_le (St.nadd K (.mk k s n a b body els cases)) G loops cases
    have h3 := St.nchks_le (St.nadd K (.mk k s n a b body els cases)) G loops els
    refine Nat.le_trans (after_fst_le _ _) ?_
    simp only
    split
    · split
      · simp only; omega
      · omega
    · split
      · simp only; omega
      · have a2 := after_fst_le (St.nchks (St.nadd K (.mk k s n a b body els cases)) G loops body) (after (Cs.nchks (St.nadd K (.mk k s n a b body els cases)) G loops cases) (St.nchks (St.nadd K (.mk k s n a b body els cases)) G loops els))
        have a3 := after_fst_le (Cs.nchks (St.nadd K (.mk k s n a b body els cases)) G loops cases) (St.nchks (St.nadd K (.mk k s n a b body els cases)) G loops els)
        omega
theorem St.nchks_le (K : Known) (G : List ByteArray) (loops : Int) (l : List St) : (St.nchks K G loops l).1 ≤ St.totals l := by
  cases l with
  | nil => simp [St.nchks]
  | cons x l =>
    simp only [St.nchks, St.totals]
    have h1 := St.nchk_le K G loops x
    have h2 := St.nchks_le (x.nadd K) G loops l
    have a1 := after_fst_le (St.nchk K G loops x) (St.nchks (x.nadd K) G loops l)
    omega
theorem Cs.nchk_le (K : Known) (G : List ByteArray) (loops : Int) (x : Cs) : (x.nchk K G loops).1 ≤ x.total := by
  cases x with
  | mk n body =>
    simp only [Cs.nchk, Cs.total]
    have h1 := St.nchks_le K G loops body
    omega
theorem Cs.nchks_le (K : Known) (G : List ByteArray) (loops : Int) (l : List Cs) : (Cs.nchks K G loops l).1 ≤ Cs.totals l := by
  cases l with
  | nil => simp [Cs.nchks]
  | cons x l =>
    simp only [Cs.nchks, Cs.totals]
    have h1 := Cs.nchk_le K G loops x
    have h2 := Cs.nchks_le K G loops l
    have a1 := after_fst_le (Cs.nchk K G loops x) (Cs.nchks K G loops l)
    omega
end
theorem St.ncallss_append (l m : List St) : St.ncallss (l ++ m) = St.ncallss l ++ St.ncallss m := by
  induction l with
  | nil => simp [St.ncallss]
  | cons y l ih => simp only [List.cons_append, St.ncallss, ih, List.append_assoc]
theorem Cs.ncallss_append (l m : List Cs) : Cs.ncallss (l ++ m) = Cs.ncallss l ++ Cs.ncallss m := by
  induction l with
  | nil => simp [Cs.ncallss]
  | cons y l ih => simp only [List.cons_append, Cs.ncallss, ih, List.append_assoc]
theorem St.ncallss_take {l : List St} {i : Nat} {x : St} (h : l[i]? = some x) : St.ncallss (l.take (i + 1)) = St.ncallss (l.take i) ++ x.ncalls := by
  rw [take_next h, St.ncallss_append]; simp [St.ncallss]
theorem Cs.ncallss_take {l : List Cs} {i : Nat} {x : Cs} (h : l[i]? = some x) : Cs.ncallss (l.take (i + 1)) = Cs.ncallss (l.take i) ++ x.ncalls := by
  rw [take_next h, Cs.ncallss_append]; simp [Cs.ncallss]
theorem Cs.ncalls_eq (x : Cs) : x.ncalls = St.ncallss x.body := by cases x; simp only [Cs.ncalls, Cs.body]

/-- The blocks that a walk may write. -/
def WT (c bk bc : Nat) (ov : Value) (k : Nat) : Prop := k = bc ∨ ScT c bk ov k
structure WStep (w w' : World) (c bk bc : Nat) (ov ov' : Value) : Prop where
  oth : Oth (WT c bk bc ov) w w'
  new : ScNew w ov ov'
theorem WStep.of_below {w w' : World} {c bk bc : Nat} {ov : Value} (h : Below w.heap.size w w') : WStep w w' c bk bc ov ov := ⟨.of_below h, fun _ _ h => h⟩
theorem WStep.refl (w : World) (c bk bc : Nat) (ov : Value) : WStep w w c bk bc ov ov := .of_below (Below.refl _ _)
theorem WStep.of_calls {w w' : World} {c bk bc : Nat} {ov : Value} (h : Oth (· = bc) w w') : WStep w w' c bk bc ov ov := ⟨h.imp fun _ _ h => .inl h, fun _ _ h => h⟩
theorem WStep.of_scope {w w' : World} {c bk bc : Nat} {ov ov' : Value} (h : Oth (ScT c bk ov) w w') (hn : ScNew w ov ov') : WStep w w' c bk bc ov ov' := ⟨h.imp fun _ _ h => .inr h, hn⟩
theorem WStep.set {w : World} {c bk bc : Nat} {ov : Value} (o : Nat) (v : Value) : WStep w (w.setCell ⟨c, o, none⟩ v) c bk bc ov ov := ⟨(Oth.refl _ _).set (p := ⟨c, o, none⟩) (.inr (.inl rfl)) _, fun _ _ h => h⟩
theorem WStep.trans {w w1 w2 : World} {c bk bc : Nat} {ov ov1 ov2 : Value} (h : WStep w w1 c bk bc ov ov1) (k : WStep w1 w2 c bk bc ov1 ov2) : WStep w w2 c bk bc ov ov2 :=
  ⟨⟨k.oth.os.trans h.oth.os, k.oth.tape.trans h.oth.tape, k.oth.output.trans h.oth.output, Nat.le_trans h.oth.size k.oth.size, fun i hi hs => (k.oth.block i (Nat.lt_of_lt_of_le hi h.oth.size) (fun h2 => hs (by
      rcases h2 with h2 | h2 | h2 | h2
      · exact .inl h2
      · exact .inr (.inl h2)
      · exact .inr (.inr (.inl h2))
      · exact .inr (.inr (.inr (h.new i hi h2)))))).trans (h.oth.block i hi hs)⟩,
    fun i hi h2 => h.new i hi (k.new i (Nat.lt_of_lt_of_le hi h.oth.size) h2)⟩
theorem WAt.own {w : World} {c bk bf bc : Nat} {ov : Value} {K : Known} {G : List ByteArray} {C : List Int} {n loops : Int} (h : WAt w c bk bf bc ov K G C n loops) : ∀ k, ov.ownBlock = some k → c < k ∧ k < w.heap.size := h.sc.own
theorem WAt.wt {w : World} {c bk bf bc : Nat} {ov : Value} {K : Known} {G : List ByteArray} {C : List Int} {n loops : Int} (h : WAt w c bk bf bc ov K G C n loops) {k : Nat} (hk : WT c bk bc ov k) : bf < k ∧ k < w.heap.size := by
  have l := h.lts
  have q : c < w.heap.size := block_lt_of_cell h.c2
  rcases hk with h2 | h2 | h2 | h2
  · omega
  · omega
  · omega
  · have := h.own k h2; omega
theorem WStep.below {w w0 w' : World} {c bk bf bc : Nat} {ov ov' : Value} {K : Known} {G : List ByteArray} {C : List Int} {n loops : Int} (h : WStep w w' c bk bc ov ov') (hK : WAt w c bk bf bc ov K G C n loops) (hB : Below w0.heap.size w0 w) (hb : w0.heap.size ≤ bf) : Below w0.heap.size w0 w' :=
  hB.trans (h.oth.below hB.size fun k hk => by have := (hK.wt hk).1; omega)
/-- A block made behind the walker stays as it is. -/
theorem not_wt {c bk bc : Nat} {ov : Value} {D : Nat} (h1 : D ≠ bc) (h2 : D ≠ c) (h3 : D ≠ bk) (h4 : ∀ k, ov.ownBlock = some k → k < D) : ¬ WT c bk bc ov D := by
  rintro (e | e | e | e)
  · exact h1 e
  · exact h2 e
  · exact h3 e
  · have := h4 D e; omega
theorem WAt.scope {w w' : World} {c bk bf bc : Nat} {ov ov' : Value} {K K' : Known} {G : List ByteArray} {C : List Int} {n loops : Int} (h : WAt w c bk bf bc ov K G C n loops) (hs : ScAt w' c bk ov' K') (hO : Oth (ScT c bk ov) w w') (hk : ScKeep w w' c) : WAt w' c bk bf bc ov' K' G C n loops := by
  have l := h.lts
  have q : c < w.heap.size := block_lt_of_cell h.c2
  have o := h.own
  obtain ⟨S, F, s1, s2⟩ := h.funcs
  refine ⟨hs, (hk 2 (by decide)).1.trans h.c2, (hk 3 (by decide)).1.trans h.c3, (hk 4 (by decide)).1.trans h.c4, (hk 5 (by decide)).1.trans h.c5, (hk 4 (by decide)).2.trans h.f4, (hk 5 (by decide)).2.trans h.f5, ⟨S, F, s1.oth hO ?_, s2⟩, h.calls.oth hO ?_, h.few, l⟩
  · rintro (e | e | e)
    · omega
    · omega
    · have := o _ e; omega
  · rintro (e | e | e)
    · omega
    · omega
    · have := o _ e; omega
theorem WAt.put {w : World} {c bk bf bc : Nat} {ov : Value} {K : Known} {G : List ByteArray} {C : List Int} {n loops : Int} (h : WAt w c bk bf bc ov K G C n loops) (o : Nat) (ho : o = 4 ∨ o = 5) (z : Int) : WAt (w.setCell ⟨c, o, none⟩ (.int .i64 z)) c bk bf bc ov K G C (if o = 4 then z else n) (if o = 5 then z else loops) := by
  have l := h.lts
  have q : c < w.heap.size := block_lt_of_cell h.c2
  have ow := h.own
  have hO : Oth (· = c) w (w.setCell ⟨c, o, none⟩ (.int .i64 z)) := (Oth.refl (· = c) w).set (p := ⟨c, o, none⟩) rfl _
  have ne : ∀ j, j ≠ o → (w.setCell ⟨c, o, none⟩ (.int .i64 z)).cell? ⟨c, j, none⟩ = w.cell? ⟨c, j, none⟩ := fun j hj => World.cell?_setCell_other _ _ _ _ (by intro e; injection e with e1 e2; exact hj e2.symm)
  have fr : ∀ j, (w.setCell ⟨c, o, none⟩ (.int .i64 z)).frozen? ⟨c, j, none⟩ = w.frozen? ⟨c, j, none⟩ := fun j => World.frozen?_setCell _ _ _ _
  obtain ⟨S, F, s1, s2⟩ := h.funcs
  obtain ⟨Z, z1, z2⟩ := h.sc.kinds
  have hsc : ScAt (w.setCell ⟨c, o, none⟩ (.int .i64 z)) c bk ov K := ⟨(ne 0 (by omega)).trans h.sc.c0, (ne 1 (by omega)).trans h.sc.c1, (fr 1).trans h.sc.f1, ⟨Z, z1.oth hO (by omega), z2⟩, h.sc.order.oth hO (fun k e => by have := ow k e; omega), h.sc.good, h.sc.lt⟩
  refine ⟨hsc, (ne 2 (by omega)).trans h.c2, (ne 3 (by omega)).trans h.c3, ?_, ?_, (fr 4).trans h.f4, (fr 5).trans h.f5, ⟨S, F, s1.oth hO (by omega), s2⟩, h.calls.oth hO (by omega), h.few, l⟩
  · rcases ho with rfl | rfl
    · exact World.cell?_setCell_same' _ _ _ (by rw [h.c4]; rfl)
    · exact (ne 4 (by omega)).trans h.c4
  · rcases ho with rfl | rfl
    · exact (ne 5 (by omega)).trans h.c5
    · exact World.cell?_setCell_same' _ _ _ (by rw [h.c5]; rfl)
theorem WAt.putAt {w : World} {c bk bf bc : Nat} {ov : Value} {K : Known} {G : List ByteArray} {C : List Int} {n loops : Int} (h : WAt w c bk bf bc ov K G C n loops) (z : Int) : WAt (w.setCell ⟨c, 4, none⟩ (.int .i64 z)) c bk bf bc ov K G C z loops := h.put 4 (.inl rfl) z
theorem WAt.putLoops {w : World} {c bk bf bc : Nat} {ov : Value} {K : Known} {G : List ByteArray} {C : List Int} {n loops : Int} (h : WAt w c bk bf bc ov K G C n loops) (z : Int) : WAt (w.setCell ⟨c, 5, none⟩ (.int .i64 z)) c bk bf bc ov K G C n z := h.put 5 (.inr rfl) z
theorem WAt.len {w : World} {c bk bf bc : Nat} {ov : Value} {K : Known} {G : List ByteArray} {C : List Int} {n loops : Int} (h : WAt w c bk bf bc ov K G C n loops) : ∃ a cap, ov = .slice a K.length cap := by
  obtain ⟨_, a, cap, e, _⟩ := SliceIn.of_owns h.sc.order
  simp at e
  exact ⟨a, cap, e⟩
theorem WAt.to {w : World} {c bk bf bc : Nat} {ov : Value} {K K' : Known} {G : List ByteArray} {C : List Int} {n n' loops loops' : Int} (h : WAt w c bk bf bc ov K G C n loops) (h1 : K = K') (h2 : n = n') (h3 : loops = loops') : WAt w c bk bf bc ov K' G C n' loops' := by subst h1; subst h2; subst h3; exact h

/-- What a walk over something leaves: r statements met and what is wrong, Kz known behind it, ns called. -/
def NPost (W W' : World) (c bk bf bc : Nat) (ov : Value) (K : Known) (G : List ByteArray) (C : List Int) (n loops : Int) (r : Nat × Int) (Kz : Known) (ns : List ByteArray) (t : Nat) : Prop :=
  ∃ (ov' : Value) (D : Known) (C' : List Int), WAt W' c bk bf bc ov' (K ++ D) G C' (n + (r.1 : Int)) loops ∧ WStep W W' c bk bc ov ov' ∧ D.length ≤ t ∧ (r.2 = 0 → K ++ D = Kz ∧ ∀ i, i ∈ C' ↔ i ∈ C ∨ idxs G ns i)
def NListOk (w0 : World) (l : List St) (v : Value) : Prop := St.fines l → ∀ (W : World) (c bk bf bc : Nat) (ov : Value) (K : Known) (G : List ByteArray) (C : List Int) (n loops : Int), Below w0.heap.size w0 W → w0.heap.size ≤ bf → WAt W c bk bf bc ov K G C n loops →
  0 ≤ n → n + (St.totals l : Int) ≤ 1000000 → 0 ≤ loops → loops + (St.totals l : Int) ≤ 1000000 → K.length + St.totals l ≤ 100000 →
  Calls Try.prog 41 #[ptrV c, v] W (fun E W' => E = .returned (.int .i64 (St.nchks K G loops l).2) ∧ NPost W W' c bk bf bc ov K G C n loops (St.nchks K G loops l) K (St.ncallss l) (St.totals l))
theorem St.nadd_ext (K : Known) (x : St) : ∃ D, x.nadd K = K ++ D ∧ D.length ≤ 1 := by
  unfold St.nadd
  split
  · exact ⟨_, rfl, by simp⟩
  · split
    · exact ⟨_, rfl, by simp⟩
    · exact ⟨[], by simp, by simp⟩
/-- Something is wrong in a list: what is met up to there. -/
theorem St.nchks_hit {K : Known} {G : List ByteArray} {loops : Int} {l : List St} {i : Nat} {x : St} (hx : l[i]? = some x) (h0 : (St.nchks K G loops (l.take i)).2 = 0) (he : (x.nchk (kAfter K (l.take i)) G loops).2 ≠ 0) : St.nchks K G loops l = ((St.nchks K G loops (l.take i)).1 + (x.nchk (kAfter K (l.take i)) G loops).1, (x.nchk (kAfter K (l.take i)) G loops).2) := by
  have h : St.nchks K G loops (l.take (i + 1)) = ((St.nchks K G loops (l.take i)).1 + (x.nchk (kAfter K (l.take i)) G loops).1, (x.nchk (kAfter K (l.take i)) G loops).2) := by rw [St.nchks_next hx, after_ok h0]
  rw [St.nchks_stop (i + 1) (by rw [h]; exact he), h]
theorem Cs.nchks_hit {K : Known} {G : List ByteArray} {loops : Int} {l : List Cs} {i : Nat} {x : Cs} (hx : l[i]? = some x) (h0 : (Cs.nchks K G loops (l.take i)).2 = 0) (he : (x.nchk K G loops).2 ≠ 0) : Cs.nchks K G loops l = ((Cs.nchks K G loops (l.take i)).1 + (x.nchk K G loops).1, (x.nchk K G loops).2) := by
  have h : Cs.nchks K G loops (l.take (i + 1)) = ((Cs.nchks K G loops (l.take i)).1 + (x.nchk K G loops).1, (x.nchk K G loops).2) := by rw [Cs.nchks_next hx, after_ok h0]
  rw [Cs.nchks_stop (i + 1) (by rw [h]; exact he), h]
theorem kAfter_le (K : Known) (l : List St) : ∃ D, kAfter K l = K ++ D ∧ D.length ≤ l.length := by
  induction l generalizing K with
  | nil => exact ⟨[], by simp [kAfter], by simp⟩
  | cons x l ih =>
    obtain ⟨D1, e1, h1⟩ := St.nadd_ext K x
    obtain ⟨D2, e2, h2⟩ := ih (x.nadd K)
    refine ⟨D1 ++ D2, ?_, by simp; omega⟩
    show kAfter (x.nadd K) l = _
    rw [e2, e1, List.append_assoc]
theorem St.len_totals (l : List St) : l.length ≤ St.totals l := by
  induction l with
  | nil => simp
  | cons x l ih =>
    have := x.total_eq
    simp only [List.length_cons, St.totals]
    omega
end Go.Proofs.Ytneibcpgengdnaa
