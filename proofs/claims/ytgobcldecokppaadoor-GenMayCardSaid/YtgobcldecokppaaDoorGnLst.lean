/- gen: a list of statements. -/
import Derived.Test.YtgobcldecokppaaDoorGnBrk
namespace Go.Proofs.YtgobcldecokppaaDoor
open Go.RowKit Go.Maps

/-- What a function without a result leaves behind doesn't hang on its frame. -/
theorem leaves_put {P : Program} {fn : Func} {R : Ending → World → Prop} (hf : fn.results = #[]) : ∀ (ds : List Deferred) (tm tm' : Array Value) (u : FrameMode) (w : World), Leaves P fn tm R ds u w → Leaves P fn tm' R ds u w
  | [], tm, tm', .returning, w, h => by
    obtain ⟨v, h1, h2⟩ := h
    rw [results_none hf] at h1
    cases h1
    exact ⟨_, results_none hf _ _ _, h2⟩
  | [], _, _, .panicking _, _, h => h
  | [], _, _, .run, _, h => h.elim
  | d :: ds, tm, tm', u, w, h => by
    obtain ⟨hu, fv, cap, f, args, e1, e2, hc⟩ := h
    refine ⟨hu, fv, cap, f, args, e1, e2, hc.mono fun e u' w' h => ?_⟩
    cases e with
    | returned v => exact leaves_put hf ds _ _ _ _ h
    | panicked c => exact leaves_put hf ds _ _ _ _ h
    | outgrown => exact h
/-- A statement in memory that makes nothing known: its code is laid. -/
def GsFor (w0 : World) (x : St) (v : Value) : Prop := ∀ (W : World) (B : Nat) (m : Mk) (F : ByteArray → Int) (N : Nat) (s : GS) (t : Int), Below w0.heap.size w0 W → w0.heap.size ≤ B → MkAt W B m F N s → 0 ≤ t → t + (x.total : Int) ≤ 1000000 → N + x.total ≤ 1000000000 → s.pats.length + x.total ≤ 1000000000 →
  s.code.length + (St.gn F x s.V s.words s.code.length t).code.length ≤ 999999999000 →
  Calls Tryd.prog 23 #[ptrV m.b, v, .int .i64 t] W (fun E W' => E = .returned (.tuple #[]) ∧ ∃ m', MkAt W' B m' F (N + x.total) (s.out (St.gn F x s.V s.words s.code.length t)) ∧ GStep W m W' m')
/-- What is left of a list, from a state on. -/
def restO (F : ByteArray → Int) (l : List St) (i : Nat) (s : GS) (n : Int) (ns : List ByteArray) : GS := s.out (St.gns F (l.drop i) s.V s.words s.code.length n ns)
theorem restO_next {F : ByteArray → Int} {l : List St} {i : Nat} {x : St} (h : l[i]? = some x) (s : GS) (n : Int) (ns : List ByteArray) : restO F l i s n ns = s.out (St.gns F (x :: l.drop (i + 1)) s.V s.words s.code.length n ns) := by
  unfold restO
  have hlt := (List.getElem?_eq_some_iff.1 h).1
  rw [List.drop_eq_getElem_cons hlt, (List.getElem?_eq_some_iff.1 h).2]
theorem drop_tot {l : List St} {i : Nat} {x : St} (h : l[i]? = some x) : St.totals (l.drop i) = x.total + St.totals (l.drop (i + 1)) := by
  have hlt := (List.getElem?_eq_some_iff.1 h).1
  rw [List.drop_eq_getElem_cons hlt, (List.getElem?_eq_some_iff.1 h).2]
  rfl
theorem append_str_at {ops : Array Oper} {rest : List Oper} {o : Oper} {a : Act} {Q : Exit → Act → World → Prop} {w : World} (hgd : o.guard = none) (s x : Operand)
    (ho : o.op = .call { callee := .builtin .append, args := #[s, x], argTypes := #[81, 81] })
    (B : Nat) (v : Value) (l : List ByteArray) (hs : a.eval s = v) (hown : OwnStrs w B v l) (y : ByteArray) (hx : a.eval x = .slice (some ⟨w.heap.size, 0, none⟩) 1 1)
    (hl : l.length ≤ 1000000000000) (hB : B ≤ w.heap.size)
    (h : ∀ v' w', OwnStrs w' B v' (l ++ [y]) → Oth (fun k => v.ownBlock = some k) w w' → (∀ k, k < w.heap.size → v'.ownBlock = some k → v.ownBlock = some k) → wpList Tryd.prog ops Q rest (a.put o.dst v') w') :
    wpList Tryd.prog ops Q (o :: rest) a (w.alloc (.cells #[.string y] 9)) := by
  refine append_str hgd s x ho B v l hs hown y hx hl hB ?_
  intro v' w' h1 hg hf _
  have hb : Below w.heap.size w (w.alloc (.cells #[.string y] 9)) := (Below.refl _ _).alloc (Nat.le_refl _) _
  refine h v' w' h1 ((Oth.of_below hb).trans ⟨hg.os, hg.tape, hg.output, hg.size, fun i hi hc => hg.block i hi (fun e => hc e.symm)⟩) fun k hk e => ?_
  by_cases h2 : v.ownBlock = some k
  · exact h2
  · exact absurd e (hf k (Nat.lt_of_lt_of_le hk hb.size) h2)
/-- Blocks that are newer than a step's beginning are written. -/
theorem GStep.fresh {W w w' : World} {m m' : Mk} (h : GStep W m w m') {T : Nat → Prop} (hO : Oth T w w') (hT : ∀ k, T k → W.heap.size ≤ k) : GStep W m w' m' :=
  ⟨⟨hO.os.trans h.oth.os, hO.tape.trans h.oth.tape, hO.output.trans h.oth.output, Nat.le_trans h.oth.size hO.size, fun i hi ht => (hO.block i (Nat.lt_of_lt_of_le hi h.oth.size) fun e => by have := hT i e; omega).trans (h.oth.block i hi ht)⟩, h.b, h.f, h.v, h.new⟩
/-- A list's own blocks: the box of the maker (X), the names' box (Y), the names. -/
structure NmAt (w : World) (C : Nat) (m : Mk) (X Y : Nat) (v : Value) (ns : List ByteArray) : Prop where
  x0 : w.cell? ⟨X, 0, none⟩ = some (ptrV m.b)
  y0 : w.cell? ⟨Y, 0, none⟩ = some v
  yf : w.frozen? ⟨Y, 0, none⟩ = false
  own : OwnStrs w C v ns
  nx : ¬ m.T X
  ny : ¬ m.T Y ∧ Y ≠ m.f
  nv : ∀ k, v.ownBlock = some k → ¬ m.T k ∧ k ≠ m.f ∧ k ≠ X ∧ k ≠ Y
  xy : X ≠ Y
  nn : ns = [] → v.ownBlock = none
theorem NmAt.step {w w' : World} {C : Nat} {m m' : Mk} {X Y : Nat} {v : Value} {ns : List ByteArray} (h : NmAt w C m X Y v ns) (k : GStep w m w' m') : NmAt w' C m' X Y v ns := by
  have qx : X < w.heap.size := block_lt_of_cell h.x0
  have qy : Y < w.heap.size := block_lt_of_cell h.y0
  refine ⟨by rw [k.cell qx h.nx, k.b]; exact h.x0, (k.cell qy h.ny.1).trans h.y0, (k.oth.frozen (p := ⟨Y, 0, none⟩) qy h.ny.1).trans h.yf, owns_at_block h.own fun j hj => (k.block (World.ownsRow.lt h.own j hj).2 (h.nv j hj).1).1, (k.block qx h.nx).2, ⟨(k.block qy h.ny.1).2, by rw [k.f]; exact h.ny.2⟩, fun j hj => ?_, h.xy, h.nn⟩
  have h1 := h.nv j hj
  exact ⟨(k.block (World.ownsRow.lt h.own j hj).2 h1.1).2, by rw [k.f]; exact h1.2.1, h1.2.2⟩
/-- One name more is known: the list's own blocks and the maker behind the append and the store. -/
theorem NmAt.more {w w' : World} {B C : Nat} {m : Mk} {X Y : Nat} {v v' : Value} {ns : List ByteArray} {F : ByteArray → Int} {N : Nat} {s : GS} {y : ByteArray} (h : NmAt w C m X Y v ns) (hM : MkAt w B m F N s) (hown : OwnStrs w' C v' (ns ++ [y])) (hO : Oth (fun k => v.ownBlock = some k) w w') (hf : ∀ k, k < w.heap.size → v'.ownBlock = some k → v.ownBlock = some k) (hmf : m.f < w.heap.size) :
    (w'.cell? ⟨Y, 0, none⟩ = some v ∧ w'.frozen? ⟨Y, 0, none⟩ = false) ∧ NmAt (w'.setCell ⟨Y, 0, none⟩ v') C m X Y v' (ns ++ [y]) ∧ MkAt (w'.setCell ⟨Y, 0, none⟩ v') B m F N s ∧ Oth (fun k => k = Y ∨ v.ownBlock = some k) w (w'.setCell ⟨Y, 0, none⟩ v') := by
  have qx : X < w.heap.size := block_lt_of_cell h.x0
  have qy : Y < w.heap.size := block_lt_of_cell h.y0
  have nY : ¬ v.ownBlock = some Y := fun e => (h.nv Y e).2.2.2 rfl
  have nX : ¬ v.ownBlock = some X := fun e => (h.nv X e).2.2.1 rfl
  have hy := (hO.cell (p := ⟨Y, 0, none⟩) qy nY).trans h.y0
  have hyf := (hO.frozen (p := ⟨Y, 0, none⟩) qy nY).trans h.yf
  have hO2 : Oth (fun k => k = Y ∨ v.ownBlock = some k) w (w'.setCell ⟨Y, 0, none⟩ v') := (Oth.imp (T := fun k => k = Y ∨ v.ownBlock = some k) hO fun k _ e => Or.inr e).set (p := ⟨Y, 0, none⟩) (.inl rfl) _
  have hv' : ∀ k, v'.ownBlock = some k → k ≠ Y ∧ k ≠ X ∧ ¬ m.T k ∧ k ≠ m.f := fun k e => by
    by_cases hk : k < w.heap.size
    · have h1 := h.nv k (hf k hk e); exact ⟨h1.2.2.2, h1.2.2.1, h1.1, h1.2.1⟩
    · exact ⟨by omega, by omega, fun e2 => hk (hM.inT k e2), by omega⟩
  refine ⟨⟨hy, hyf⟩, ⟨?_, World.cell?_setCell_same' _ _ _ (by rw [hy]; rfl), (World.frozen?_setCell _ _ _ _).trans hyf, ownsRow_setCell_other hown (fun e => (hv' Y e).1 rfl) _, h.nx, h.ny, fun k e => ⟨(hv' k e).2.2.1, (hv' k e).2.2.2, (hv' k e).2.1, (hv' k e).1⟩, h.xy, fun e => by simp at e⟩, hM.apart hO2 fun k e => ?_, hO2⟩
  · exact (hO2.cell (p := ⟨X, 0, none⟩) qx (by rintro (e | e); exact h.xy e; exact nX e)).trans h.x0
  · rcases e with rfl | e
    · obtain ⟨a, n, c, rfl⟩ := row_shape h.own
      exact ⟨h.ny.1, h.ny.2, fun p => by rw [h.y0]; simp, fun z => by rw [h.y0]; simp⟩
    · have h1 := h.nv k e
      refine ⟨h1.1, h1.2.1, ?_⟩
      cases ns with
      | nil => rw [h.nn rfl] at e; cases e
      | cons z l =>
        have h2 := World.ownsRow.cells h.own (g := k) e 0 (.string z) (by simp [strVs])
        have ha : (⟨k, 0, none⟩ : Addr).add 0 = ⟨k, 0, none⟩ := by unfold Addr.add; split <;> simp_all
        rw [ha] at h2
        exact ⟨fun p => by rw [h2]; simp, fun z => by rw [h2]; simp⟩
end Go.Proofs.YtgobcldecokppaaDoor
