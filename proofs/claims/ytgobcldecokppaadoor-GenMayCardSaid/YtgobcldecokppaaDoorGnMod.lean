/- gen: a program's module: the plain spec, a module in memory, slices.Clone. -/
import Derived.Test.YtgobcldecokppaaDoorGnFit
namespace Go.Proofs.YtgobcldecokppaaDoor
open Go.RowKit Go.Maps

/-! ### the plain spec -/
abbrev Prr := Int × Int
structure GFun where
  name : ByteArray
  params : List Prr
  regs : Int
  words : Int
  code : List Ins
def gnV0 : List Pm → Nat → GEnv → GEnv
  | [], _, V => V
  | x :: l, k, V => gnV0 l (k + 1) (V.put x.name ⟨(k : Int), 0, 0⟩)
theorem gnV0_snoc (l : List Pm) (x : Pm) (k : Nat) (V : GEnv) : gnV0 (l ++ [x]) k V = (gnV0 l k V).put x.name ⟨((k + l.length : Nat) : Int), 0, 0⟩ := by
  induction l generalizing k V with
  | nil => rfl
  | cons y l ih => simp only [List.cons_append, gnV0, ih, List.length_cons]; rw [show k + 1 + l.length = k + (l.length + 1) by omega]
theorem gnV0_reg (l : List Pm) (k : Nat) (V : GEnv) (hk : k + l.length ≤ 1000000) (h : ∀ y, 0 ≤ (V y).reg ∧ (V y).reg ≤ 1000000000000) : ∀ y, 0 ≤ (gnV0 l k V y).reg ∧ (gnV0 l k V y).reg ≤ 1000000000000 := by
  induction l generalizing k V with
  | nil => exact h
  | cons x l ih =>
    simp only [List.length_cons] at hk
    refine ih (k + 1) _ (by omega) fun y => ?_
    unfold GEnv.put
    split
    · show 0 ≤ (k : Int) ∧ (k : Int) ≤ 1000000000000; omega
    · exact h y
/-- What a function comes to. -/
def gnFun (F : ByteArray → Int) (f : Fn) : GFun :=
  let n : Int := f.params.length
  let o := St.gns F f.body (gnV0 f.params 0 (fun _ => noPlc)) 0 0 n []
  let code := o.code ++ [⟨1, n, 0, 0, 0⟩] ++ [⟨0, n, 0, 0, 0⟩]
  ⟨f.name, f.params.map fun x => (x.lo, x.hi), regsOf n code, o.words, code⟩
def GFun.bad (g : GFun) : Int := if 4096 < g.words then 96 else if 64 < g.regs then 95 else if 1024 < g.code.length then 97 else 0
def putF (F : ByteArray → Int) (s : ByteArray) (z : Int) : ByteArray → Int := fun i => if i = s then z else F i
def gnAll : List Fn → Nat → (ByteArray → Int) → List GFun × Flt
  | [], _, _ => ([], (0, 0, 0))
  | f :: l, i, F => if (gnFun F f).bad ≠ 0 then ([], ((gnFun F f).bad, (i : Int), 0)) else (gnFun F f :: (gnAll l (i + 1) (putF F f.name (i : Int))).1, (gnAll l (i + 1) (putF F f.name (i : Int))).2)
/-- gen.Module: thresholds, functions, what is wrong. -/
def Pg.gmod (p : Pg) : List Int × List GFun × Flt :=
  if p.rfault.1 ≠ 0 then ([], [], p.rfault) else if (gnAll p.funcs 0 (fun _ => 0)).2.1 ≠ 0 then ([], [], (gnAll p.funcs 0 (fun _ => 0)).2) else (p.widen, gnAll p.funcs 0 (fun _ => 0))
/-- What is left of the functions, from number i on. -/
def restF (l : List Fn) (i : Nat) (gl : List GFun) (F : ByteArray → Int) : List GFun × Flt := (gl ++ (gnAll (l.drop i) i F).1, (gnAll (l.drop i) i F).2)
theorem restF_next {l : List Fn} {i : Nat} {f : Fn} (h : l[i]? = some f) (gl : List GFun) (F : ByteArray → Int) : restF l i gl F = if (gnFun F f).bad ≠ 0 then (gl, ((gnFun F f).bad, (i : Int), 0)) else restF l (i + 1) (gl ++ [gnFun F f]) (putF F f.name (i : Int)) := by
  unfold restF
  have hlt := (List.getElem?_eq_some_iff.1 h).1
  rw [List.drop_eq_getElem_cons hlt, (List.getElem?_eq_some_iff.1 h).2]
  simp only [gnAll]
  split <;> simp
theorem restF_end {l : List Fn} (gl : List GFun) (F : ByteArray → Int) : restF l l.length gl F = (gl, (0, 0, 0)) := by
  unfold restF
  rw [List.drop_eq_nil_of_le (Nat.le_refl _)]
  simp [gnAll]

/-! ### a module in memory -/
def prrVs (l : List Prr) : List Value := l.flatMap fun e => [.int .i64 e.1, .int .i64 e.2]
def OwnPrr (w : World) (B : Nat) (v : Value) (l : List Prr) : Prop := w.ownsRow B 47 2 v l.length (prrVs l)
/-- A function of a module in memory: its plain value, its lists' values, the blocks between which they lie. -/
structure GR where
  g : GFun
  vp : Value
  vc : Value
  lo : Nat
  hi : Nat
def GR.cells (x : GR) : List Value := [.string x.g.name, x.vp, .int .i64 x.g.regs, .int .i64 x.g.words, x.vc]
structure GR.In (w : World) (x : GR) : Prop where
  params : OwnPrr w x.lo x.vp x.g.params
  code : OwnIns w x.lo x.vc x.g.code
  pin : ∀ k, x.vp.ownBlock = some k → k < x.hi
  cin : ∀ k, x.vc.ownBlock = some k → k < x.hi
  ne : ∀ k, x.vp.ownBlock = some k → x.vc.ownBlock ≠ some k
structure GmAt (w : World) (B : Nat) (vt vm : Value) (ts : List Int) (l : List GR) : Prop where
  thr : w.ownsRow B 2 1 vt ts.length (intVs ts)
  row : w.ownsRow B 44 5 vm l.length (l.flatMap GR.cells)
  each : ∀ x ∈ l, x.In w ∧ B ≤ x.lo ∧ x.hi ≤ w.heap.size
  ord : l.Pairwise fun a b => a.hi ≤ b.lo
  nt : ∀ k, vt.ownBlock = some k → vm.ownBlock ≠ some k ∧ ∀ x ∈ l, ¬ (x.lo ≤ k ∧ k < x.hi)
  nm : ∀ k, vm.ownBlock = some k → ∀ x ∈ l, ¬ (x.lo ≤ k ∧ k < x.hi)
theorem owns_base {w : World} {B C : Nat} {e : TypeId} {size n : Nat} {v : Value} {xs : List Value} (h : w.ownsRow B e size v n xs) (hk : ∀ k, v.ownBlock = some k → C ≤ k) : w.ownsRow C e size v n xs := by
  refine ⟨h.1, ?_⟩
  rcases h.2 with h2 | ⟨g, cap, cur, rfl, hg, r⟩
  · exact .inl h2
  · exact .inr ⟨g, cap, cur, rfl, hk g rfl, r⟩
theorem GR.In.keep {w w' : World} {x : GR} (h : x.In w) (hb : ∀ k, x.lo ≤ k → k < x.hi → w'.heap[k]? = w.heap[k]?) : x.In w' :=
  ⟨owns_at_block h.params fun k e => hb k (World.ownsRow.lt h.params k e).1 (h.pin k e), owns_at_block h.code fun k e => hb k (World.ownsRow.lt h.code k e).1 (h.cin k e), h.pin, h.cin, h.ne⟩
/-- The module as it grows: its box O, the functions' numbers fm. -/
structure MdAt (w : World) (C O fm B8 : Nat) (vt vm : Value) (ts : List Int) (l : List GR) (F : ByteArray → Int) (i : Nat) : Prop where
  o0 : w.cell? ⟨O, 0, none⟩ = some vt
  o1 : w.cell? ⟨O, 1, none⟩ = some vm
  fr : w.frozen? ⟨O, 1, none⟩ = false
  mod : GmAt w C vt vm ts l
  map : ∃ S, SMap w fm S F ∧ S.length ≤ i
  low : ∀ x ∈ l, B8 ≤ x.lo
  vlow : ∀ k, vm.ownBlock = some k → B8 ≤ k
  tlow : ∀ k, vt.ownBlock = some k → k < O
  ne : O < B8 ∧ fm < B8 ∧ O < fm
  big : B8 ≤ w.heap.size
theorem MdAt.keep {w w' : World} {C O fm B8 : Nat} {vt vm : Value} {ts : List Int} {l : List GR} {F : ByteArray → Int} {i : Nat} (h : MdAt w C O fm B8 vt vm ts l F i) (hb : Below w.heap.size w w') : MdAt w' C O fm B8 vt vm ts l F i := by
  have qO : O < w.heap.size := Nat.lt_of_lt_of_le h.ne.1 h.big
  obtain ⟨S, hS, hSn⟩ := h.map
  refine ⟨(hb.cell (p := ⟨O, 0, none⟩) qO).trans h.o0, (hb.cell (p := ⟨O, 1, none⟩) qO).trans h.o1, (hb.frozen (p := ⟨O, 1, none⟩) qO).trans h.fr, ⟨ownsRow_below h.mod.thr hb (Nat.le_refl _), ownsRow_below h.mod.row hb (Nat.le_refl _), fun x hx => ?_, h.mod.ord, h.mod.nt, h.mod.nm⟩, ⟨S, hS.later hb hS.lt, hSn⟩, h.low, h.vlow, h.tlow, h.ne, Nat.le_trans h.big hb.size⟩
  obtain ⟨h1, h2, h3⟩ := h.mod.each x hx
  exact ⟨h1.keep fun k _ hk => hb.block k (by omega), h2, Nat.le_trans h3 hb.size⟩
theorem MdAt.more {w w1 w4 : World} {C O fm B8 : Nat} {vt vm v' : Value} {ts : List Int} {l : List GR} {F : ByteArray → Int} {i : Nat} {x : GR} (h : MdAt w C O fm B8 vt vm ts l F i) (hb : Below w.heap.size w w1) (hx : x.In w1) (hlo : w.heap.size ≤ x.lo) (hhi : x.hi ≤ w1.heap.size) (hC : C ≤ w.heap.size)
    (hown : w4.ownsRow C 44 5 v' (l.length + 1) (l.flatMap GR.cells ++ x.cells)) (hg : w1.grownBy w4 vm.ownBlock) (hfr : Fresh w1 vm v') :
    (w4.cell? ⟨O, 1, none⟩ = some vm ∧ w4.frozen? ⟨O, 1, none⟩ = false) ∧ MdAt (w4.setCell ⟨O, 1, none⟩ v') C O fm B8 vt v' ts (l ++ [x]) F i ∧ Oth (fun k => k = O ∨ vm.ownBlock = some k) w (w4.setCell ⟨O, 1, none⟩ v') := by
  have qO : O < w.heap.size := Nat.lt_of_lt_of_le h.ne.1 h.big
  have hO1 : Oth (fun k => vm.ownBlock = some k) w w4 := (Oth.of_below hb).trans ⟨hg.os, hg.tape, hg.output, hg.size, fun j hj hc => hg.block j hj (fun e => hc e.symm)⟩
  have nO : ¬ vm.ownBlock = some O := fun e => by have := h.vlow O e; have := h.ne.1; omega
  have hO : Oth (fun k => k = O ∨ vm.ownBlock = some k) w (w4.setCell ⟨O, 1, none⟩ v') := (Oth.imp (T := fun k => k = O ∨ vm.ownBlock = some k) hO1 fun k _ e => Or.inr e).set (p := ⟨O, 1, none⟩) (.inl rfl) _
  have c1 : w4.cell? ⟨O, 1, none⟩ = some vm := (hO1.cell (p := ⟨O, 1, none⟩) qO nO).trans h.o1
  have f1 : w4.frozen? ⟨O, 1, none⟩ = false := (hO1.frozen (p := ⟨O, 1, none⟩) qO nO).trans h.fr
  have hv : ∀ k, k < w1.heap.size → v'.ownBlock = some k → vm.ownBlock = some k := fun k hk e => by
    by_cases e2 : vm.ownBlock = some k
    · exact e2
    · exact absurd e (hfr k hk e2)
  have hvw : ∀ k, vm.ownBlock = some k → k < w.heap.size := fun k e => (World.ownsRow.lt h.mod.row k e).2
  have hvO : ¬ v'.ownBlock = some O := fun e => nO (hv O (Nat.lt_of_lt_of_le qO hb.size) e)
  obtain ⟨S, hS, hSn⟩ := h.map
  have qf : fm < w.heap.size := Nat.lt_of_lt_of_le h.ne.2.1 h.big
  refine ⟨⟨c1, f1⟩, ⟨?_, World.cell?_setCell_same' _ _ _ (by rw [c1]; rfl), (World.frozen?_setCell _ _ _ _).trans f1, ⟨?_, ?_, fun y hy => ?_, ?_, fun k e => ?_, fun k e y hy => ?_⟩, ⟨S, hS.at_block (hO.block _ qf ?_), hSn⟩, fun y hy => ?_, fun k e => ?_, h.tlow, h.ne, Nat.le_trans h.big hO.size⟩, hO⟩
  · rw [World.cell?_setCell_other _ _ _ _ (by intro e; injection e with _ e2; cases e2)]
    exact (hO1.cell (p := ⟨O, 0, none⟩) qO nO).trans h.o0
  · exact owns_at_block h.mod.thr fun k e => hO.block k (World.ownsRow.lt h.mod.thr k e).2 (by
      rintro (e2 | e2)
      · have := h.tlow k e; omega
      · exact (h.mod.nt k e).1 e2)
  · have h2 := ownsRow_setCell_other hown (a := ⟨O, 1, none⟩) (fun e => hvO e) v'
    simpa using h2
  · rcases List.mem_append.1 hy with hy | hy
    · obtain ⟨h1, h2, h3⟩ := h.mod.each y hy
      refine ⟨h1.keep fun k k1 k2 => hO.block k (by omega) ?_, h2, Nat.le_trans h3 hO.size⟩
      rintro (e | e)
      · have := h.low y hy; have := h.ne.1; omega
      · exact h.mod.nm k e y hy ⟨k1, k2⟩
    · simp at hy
      subst hy
      refine ⟨hx.keep fun k k1 k2 => ?_, by omega, ?_⟩
      · have h4 : Oth (· = O) w4 (w4.setCell ⟨O, 1, none⟩ v') := (Oth.refl (· = O) w4).set (p := ⟨O, 1, none⟩) rfl _
        have hk1 : k < w1.heap.size := by omega
        exact (h4.block k (Nat.lt_of_lt_of_le hk1 hg.size) (fun e => by omega)).trans (hg.block k hk1 (fun e => by have := hvw k e.symm; omega))
      · have h4 : w4.heap.size ≤ (w4.setCell ⟨O, 1, none⟩ v').heap.size := ((Oth.refl (· = O) w4).set (p := ⟨O, 1, none⟩) rfl v').size
        have := hg.size
        omega
  · refine List.pairwise_append.2 ⟨h.mod.ord, List.pairwise_singleton _ _, fun y hy z hz => ?_⟩
    simp at hz
    subst hz
    have := (h.mod.each y hy).2.2
    omega
  · have h1 := h.tlow k e
    refine ⟨fun e2 => ?_, fun y hy => ?_⟩
    · have h2 := hv k (by have := hb.size; omega) e2
      exact (h.mod.nt k e).1 h2
    · rcases List.mem_append.1 hy with hy | hy
      · exact (h.mod.nt k e).2 y hy
      · simp at hy; subst hy; omega
  · by_cases hk : k < w1.heap.size
    · have h2 := hv k hk e
      rcases List.mem_append.1 hy with hy | hy
      · exact h.mod.nm k h2 y hy
      · simp at hy; subst hy; have := hvw k h2; omega
    · rcases List.mem_append.1 hy with hy | hy
      · have := (h.mod.each y hy).2.2; have := hb.size; omega
      · simp at hy; subst hy; omega
  · rintro (e | e)
    · have := h.ne.2.2; omega
    · have := h.vlow fm e; have := h.ne.2.1; omega
  · rcases List.mem_append.1 hy with hy | hy
    · exact h.low y hy
    · simp at hy; subst hy; have := h.big; omega
  · by_cases hk : k < w1.heap.size
    · exact h.vlow k (hv k hk e)
    · have := h.big; have := hb.size; omega
theorem MdAt.putF {w w' : World} {C O fm B8 : Nat} {vt vm : Value} {ts : List Int} {l : List GR} {F F' : ByteArray → Int} {i i' : Nat} {S : List ByteArray} (h : MdAt w C O fm B8 vt vm ts l F i) (hO : Oth (· = fm) w w') (hS : SMap w' fm S F') (hn : S.length ≤ i') : MdAt w' C O fm B8 vt vm ts l F' i' := by
  have qO : O < w.heap.size := Nat.lt_of_lt_of_le h.ne.1 h.big
  have nO : ¬ O = fm := by have := h.ne.2.2; omega
  refine ⟨(hO.cell (p := ⟨O, 0, none⟩) qO nO).trans h.o0, (hO.cell (p := ⟨O, 1, none⟩) qO nO).trans h.o1, (hO.frozen (p := ⟨O, 1, none⟩) qO nO).trans h.fr, ⟨owns_at_block h.mod.thr fun k e => hO.block k (World.ownsRow.lt h.mod.thr k e).2 (fun e2 => by have := h.tlow k e; have := h.ne.2.2; omega), owns_at_block h.mod.row fun k e => hO.block k (World.ownsRow.lt h.mod.row k e).2 (fun e2 => by have := h.vlow k e; have := h.ne.2.1; omega), fun x hx => ?_, h.mod.ord, h.mod.nt, h.mod.nm⟩, ⟨S, hS, hn⟩, h.low, h.vlow, h.tlow, h.ne, Nat.le_trans h.big hO.size⟩
  obtain ⟨h1, h2, h3⟩ := h.mod.each x hx
  exact ⟨h1.keep fun k k1 k2 => hO.block k (by omega) (fun e => by have := h.low x hx; have := h.ne.2.1; omega), h2, Nat.le_trans h3 hO.size⟩
theorem GmAt.oth {w w' : World} {C : Nat} {vt vm : Value} {ts : List Int} {l : List GR} {T : Nat → Prop} (h : GmAt w C vt vm ts l) (hO : Oth T w w') (hT : ∀ k, T k → k < C) : GmAt w' C vt vm ts l :=
  ⟨owns_at_block h.thr fun k e => hO.block k (World.ownsRow.lt h.thr k e).2 (fun e2 => by have := hT k e2; have := (World.ownsRow.lt h.thr k e).1; omega), owns_at_block h.row fun k e => hO.block k (World.ownsRow.lt h.row k e).2 (fun e2 => by have := hT k e2; have := (World.ownsRow.lt h.row k e).1; omega),
    fun x hx => by
      obtain ⟨h1, h2, h3⟩ := h.each x hx
      exact ⟨h1.keep fun k k1 k2 => hO.block k (by omega) (fun e => by have := hT k e; omega), h2, Nat.le_trans h3 hO.size⟩, h.ord, h.nt, h.nm⟩
theorem GmAt.mono {w : World} {C B : Nat} {vt vm : Value} {ts : List Int} {l : List GR} (h : GmAt w C vt vm ts l) (hB : B ≤ C) : GmAt w B vt vm ts l :=
  ⟨ownsRow_mono h.thr hB, ownsRow_mono h.row hB, fun x hx => ⟨(h.each x hx).1, Nat.le_trans hB (h.each x hx).2.1, (h.each x hx).2.2⟩, h.ord, h.nt, h.nm⟩
theorem Tryd.infoI64 : (Tryd.prog.info? 2).map (fun i => (i.zero, i.size, i.bytes)) = some (some (.int .i64 0), 1, 8) := by kernel_rfl
theorem Tryd.infoSpan : (Tryd.prog.info? 47).map (fun i => (i.zero, i.size, i.bytes)) = some (some (.agg #[.int .i64 0, .int .i64 0]), 2, 16) := by kernel_rfl
theorem Tryd.infoFunc : (Tryd.prog.info? 44).map (fun i => (i.zero, i.size, i.bytes)) = some (some (.agg #[.string ⟨#[]⟩, .slice none 0 0, .int .i64 0, .int .i64 0, .slice none 0 0]), 5, 80) := by kernel_rfl
theorem Oth.more {T T' : Nat → Prop} {W w w' : World} (h : Oth T W w) (h2 : Oth T' w w') (hT : ∀ k, T' k → T k ∨ W.heap.size ≤ k) : Oth T W w' :=
  ⟨h2.os.trans h.os, h2.tape.trans h.tape, h2.output.trans h.output, Nat.le_trans h.size h2.size, fun i hi ht => (h2.block i (Nat.lt_of_lt_of_le hi h.size) fun e => by rcases hT i e with e | e; exact ht e; omega).trans (h.block i hi ht)⟩
theorem append_prr_at {ops : Array Oper} {rest : List Oper} {o : Oper} {a : Act} {Q : Exit → Act → World → Prop} {w : World} (hgd : o.guard = none) (s x : Operand)
    (ho : o.op = .call { callee := .builtin .append, args := #[s, x], argTypes := #[41, 41] })
    (B : Nat) (v : Value) (l : List Prr) (hs : a.eval s = v) (hown : OwnPrr w B v l) (p q : Int) (hx : a.eval x = .slice (some ⟨w.heap.size, 0, none⟩) 1 1)
    (hl : l.length ≤ 1000000000000) (hB : B ≤ w.heap.size)
    (h : ∀ v' w', OwnPrr w' B v' (l ++ [(p, q)]) → Oth (fun k => v.ownBlock = some k) w w' → (∀ k, k < w.heap.size → v'.ownBlock = some k → v.ownBlock = some k) → wpList Tryd.prog ops Q rest (a.put o.dst v') w') :
    wpList Tryd.prog ops Q (o :: rest) a (w.alloc (.cells #[.int .i64 p, .int .i64 q] 47)) := by
  have hb : Below w.heap.size w (w.alloc (.cells #[.int .i64 p, .int .i64 q] 47)) := (Below.refl _ _).alloc (Nat.le_refl _) _
  refine append_gen hgd s x 41 ho Tryd.underlying41 Tryd.infoSpan rfl (by decide) B v l.length (prrVs l) hs (World.ownsRow.alloc hown _) _ 1 [.int .i64 p, .int .i64 q] hx (sliceIn_new w [.int .i64 p, .int .i64 q] 1 2 47 rfl (by decide)) ?_ ?_ ?_ ?_ ?_
  · intro u hu; simp at hu; rcases hu with rfl | rfl <;> rfl
  · unfold maxLen; omega
  · omega
  · simp; omega
  · intro v' w' h1 hg hf _
    refine h v' w' (by unfold OwnPrr prrVs at *; simpa using h1) ((Oth.of_below hb).trans ⟨hg.os, hg.tape, hg.output, hg.size, fun i hi hc => hg.block i hi (fun e => hc e.symm)⟩) fun k hk e => ?_
    by_cases h2 : v.ownBlock = some k
    · exact h2
    · exact absurd e (hf k (Nat.lt_of_lt_of_le hk hb.size) h2)
/-- A function's box as it grows. -/
structure GbAt (w : World) (G B : Nat) (s : ByteArray) (pv : Value) (l : List Prr) : Prop where
  c0 : w.cell? ⟨G, 0, none⟩ = some (.string s)
  c1 : w.cell? ⟨G, 1, none⟩ = some pv
  c2 : w.cell? ⟨G, 2, none⟩ = some (.int .i64 0)
  c3 : w.cell? ⟨G, 3, none⟩ = some (.int .i64 0)
  c4 : w.cell? ⟨G, 4, none⟩ = some (.slice none 0 0)
  fr : ∀ j, w.frozen? ⟨G, j, none⟩ = false
  own : OwnPrr w B pv l
  ne : ∀ k, pv.ownBlock = some k → G < k
theorem GbAt.oth {w w' : World} {G B : Nat} {s : ByteArray} {pv : Value} {l : List Prr} {T : Nat → Prop} (h : GbAt w G B s pv l) (hO : Oth T w w') (hT : ∀ k, T k → k < G) : GbAt w' G B s pv l := by
  have q := block_lt_of_cell h.c0
  have nG : ¬ T G := fun e => by have := hT G e; omega
  have k := fun j => hO.cell (p := ⟨G, j, none⟩) q nG
  exact ⟨(k 0).trans h.c0, (k 1).trans h.c1, (k 2).trans h.c2, (k 3).trans h.c3, (k 4).trans h.c4, fun j => (hO.frozen (p := ⟨G, j, none⟩) q nG).trans (h.fr j), owns_at_block h.own fun j e => hO.block j (World.ownsRow.lt h.own j e).2 (fun e2 => by have := hT j e2; have := h.ne j e; omega), h.ne⟩
theorem GbAt.more {w w' : World} {G B : Nat} {s : ByteArray} {pv pv' : Value} {l l' : List Prr} (h : GbAt w G B s pv l) (hown : OwnPrr w' B pv' l') (hO : Oth (fun k => pv.ownBlock = some k) w w') (hf : ∀ k, k < w.heap.size → pv'.ownBlock = some k → pv.ownBlock = some k) :
    (w'.cell? ⟨G, 1, none⟩ = some pv ∧ w'.frozen? ⟨G, 1, none⟩ = false) ∧ GbAt (w'.setCell ⟨G, 1, none⟩ pv') G B s pv' l' ∧ Oth (fun k => k = G ∨ pv.ownBlock = some k) w (w'.setCell ⟨G, 1, none⟩ pv') := by
  have q := block_lt_of_cell h.c0
  have nG : ¬ pv.ownBlock = some G := fun e => by have := h.ne G e; omega
  have k := fun j => hO.cell (p := ⟨G, j, none⟩) q nG
  have f := fun j => (hO.frozen (p := ⟨G, j, none⟩) q nG).trans (h.fr j)
  have ne : ∀ j, j ≠ 1 → (w'.setCell ⟨G, 1, none⟩ pv').cell? ⟨G, j, none⟩ = w.cell? ⟨G, j, none⟩ := fun j hj => (World.cell?_setCell_other _ _ _ _ (by intro e; injection e with e1 e2; exact hj e2.symm)).trans (k j)
  have hn : ∀ k, pv'.ownBlock = some k → G < k := fun j e => by
    by_cases hj : j < w.heap.size
    · exact h.ne j (hf j hj e)
    · have q' : G < w.heap.size := q
      omega
  exact ⟨⟨(k 1).trans h.c1, f 1⟩, ⟨(ne 0 (by omega)).trans h.c0, World.cell?_setCell_same' _ _ _ (by rw [k 1, h.c1]; rfl), (ne 2 (by omega)).trans h.c2, (ne 3 (by omega)).trans h.c3, (ne 4 (by omega)).trans h.c4, fun j => (World.frozen?_setCell _ _ _ _).trans (f j), ownsRow_setCell_other hown (fun e => by have e' : pv'.ownBlock = some G := e; have := hn G e'; omega) _, hn⟩, (Oth.imp (T := fun j => j = G ∨ pv.ownBlock = some j) hO fun k _ e => Or.inr e).set (p := ⟨G, 1, none⟩) (.inl rfl) _⟩
theorem append_fun_at {ops : Array Oper} {rest : List Oper} {o : Oper} {a : Act} {Q : Exit → Act → World → Prop} {w : World} (hgd : o.guard = none) (s x : Operand)
    (ho : o.op = .call { callee := .builtin .append, args := #[s, x], argTypes := #[27, 27] })
    (B : Nat) (v : Value) (n : Nat) (xs : List Value) (hs : a.eval s = v) (hown : w.ownsRow B 44 5 v n xs) (c0 c1 c2 c3 c4 : Value) (h1 : ∀ u ∈ [c0, c1, c2, c3, c4], u.oneCell' = true) (hx : a.eval x = .slice (some ⟨w.heap.size, 0, none⟩) 1 1)
    (hl : n ≤ 1000000000) (hB : B ≤ w.heap.size)
    (h : ∀ v' w', w'.ownsRow B 44 5 v' (n + 1) (xs ++ [c0, c1, c2, c3, c4]) → (w.alloc (.cells #[c0, c1, c2, c3, c4] 44)).grownBy w' v.ownBlock → Fresh (w.alloc (.cells #[c0, c1, c2, c3, c4] 44)) v v' → Oth (fun k => v.ownBlock = some k) w w' → wpList Tryd.prog ops Q rest (a.put o.dst v') w') :
    wpList Tryd.prog ops Q (o :: rest) a (w.alloc (.cells #[c0, c1, c2, c3, c4] 44)) := by
  have hb : Below w.heap.size w (w.alloc (.cells #[c0, c1, c2, c3, c4] 44)) := (Below.refl _ _).alloc (Nat.le_refl _) _
  refine append_gen hgd s x 27 ho Tryd.underlying27 Tryd.infoFunc rfl (by decide) B v n xs hs (World.ownsRow.alloc hown _) _ 1 [c0, c1, c2, c3, c4] hx (sliceIn_new w [c0, c1, c2, c3, c4] 1 5 44 rfl (by decide)) h1 ?_ ?_ ?_ ?_
  · unfold maxLen; omega
  · omega
  · simp; omega
  · intro v' w' h1 hg hf _
    exact h v' w' h1 hg hf ((Oth.of_below hb).trans ⟨hg.os, hg.tape, hg.output, hg.size, fun i hi hc => hg.block i hi (fun e => hc e.symm)⟩)
theorem Pg.chks_at {p : Pg} (h : p.fault.1 = 0) {i : Nat} {f : Fn} (hf : p.funcs[i]? = some f) : (St.chks f.body 1).2 = 0 := by
  unfold Pg.fault at h
  by_cases h0 : p.headErr = 0
  · rw [if_neg (by rw [h0]; decide)] at h
    have h3 := Fn.faults_all h i f hf
    unfold Fn.fault at h3
    by_cases hf0 : f.face = 0
    · rw [if_neg (by rw [hf0]; decide)] at h3
      by_cases hc : (St.chks f.body 1).2 = 0
      · exact hc
      · rw [if_pos hc] at h3; exact absurd h3 hc
    · rw [if_pos hf0] at h3; exact absurd h3 hf0
  · rw [if_pos h0] at h; exact absurd h h0
/-- The state in which a function's code ends. -/
theorem gnFun_of (F : ByteArray → Int) (f : Fn) (np : Nat) (hn : np = f.params.length) (o : GOut) (ho : o = St.gns F f.body (gnV0 f.params 0 (fun _ => noPlc)) 0 0 (np : Int) []) : ∃ s3 : GS, s3 = GS.add (GS.add (GS.out ⟨[], gnV0 f.params 0 (fun _ => noPlc), (np : Int), 0, []⟩ o) [⟨1, (np : Int), 0, 0, 0⟩]) [⟨0, (np : Int), 0, 0, 0⟩] ∧ s3.code = (gnFun F f).code ∧ s3.regs = (gnFun F f).regs ∧ s3.words = (gnFun F f).words := by
  refine ⟨_, rfl, ?_, ?_, ?_⟩
  · rw [ho, hn]; simp [gnFun, GS.add, GS.out]
  · rw [ho, hn]; simp [gnFun, GS.add, GS.out, regsOf, List.foldl_append]
  · rw [ho, hn]; simp [gnFun, GS.add, GS.out]
/-- The box's last three cells are filled. -/
theorem GbAt.fill {w : World} {G B : Nat} {s : ByteArray} {pv : Value} {l : List Prr} (h : GbAt w G B s pv l) (u2 u3 u4 : Value) :
    (((w.setCell ⟨G, 2, none⟩ u2).cell? ⟨G, 3, none⟩ = some (.int .i64 0) ∧ (w.setCell ⟨G, 2, none⟩ u2).frozen? ⟨G, 3, none⟩ = false) ∧
      ((w.setCell ⟨G, 2, none⟩ u2).setCell ⟨G, 3, none⟩ u3).cell? ⟨G, 4, none⟩ = some (.slice none 0 0) ∧ ((w.setCell ⟨G, 2, none⟩ u2).setCell ⟨G, 3, none⟩ u3).frozen? ⟨G, 4, none⟩ = false) ∧
    (Oth (· = G) w (w.setCell ⟨G, 2, none⟩ u2) ∧ Oth (· = G) w ((w.setCell ⟨G, 2, none⟩ u2).setCell ⟨G, 3, none⟩ u3) ∧ Oth (· = G) w (((w.setCell ⟨G, 2, none⟩ u2).setCell ⟨G, 3, none⟩ u3).setCell ⟨G, 4, none⟩ u4)) ∧
    ∀ j u, ([.string s, pv, u2, u3, u4] : List Value)[j]? = some u → (((w.setCell ⟨G, 2, none⟩ u2).setCell ⟨G, 3, none⟩ u3).setCell ⟨G, 4, none⟩ u4).cell? ⟨G, j, none⟩ = some u := by
  have ni : ∀ (i j : Nat), i ≠ j → (⟨G, i, none⟩ : Addr) ≠ ⟨G, j, none⟩ := fun i j hij e => hij (by injection e)
  have o1 : Oth (· = G) w (w.setCell ⟨G, 2, none⟩ u2) := (Oth.refl (· = G) w).set (p := ⟨G, 2, none⟩) rfl _
  have o2 := o1.set (p := ⟨G, 3, none⟩) rfl u3
  have o3 := o2.set (p := ⟨G, 4, none⟩) rfl u4
  have a3 : (w.setCell ⟨G, 2, none⟩ u2).cell? ⟨G, 3, none⟩ = some (.int .i64 0) := (World.cell?_setCell_other _ _ _ _ (ni 2 3 (by omega))).trans h.c3
  have a4 : ((w.setCell ⟨G, 2, none⟩ u2).setCell ⟨G, 3, none⟩ u3).cell? ⟨G, 4, none⟩ = some (.slice none 0 0) := (World.cell?_setCell_other _ _ _ _ (ni 3 4 (by omega))).trans ((World.cell?_setCell_other _ _ _ _ (ni 2 4 (by omega))).trans h.c4)
  refine ⟨⟨⟨a3, (World.frozen?_setCell _ _ _ _).trans (h.fr 3)⟩, a4, (World.frozen?_setCell _ _ _ _).trans ((World.frozen?_setCell _ _ _ _).trans (h.fr 4))⟩, ⟨o1, o2, o3⟩, fun j u hu => ?_⟩
  match j, hu with
  | 0, hu => simp at hu; subst hu; exact (World.cell?_setCell_other _ _ _ _ (ni 4 0 (by omega))).trans ((World.cell?_setCell_other _ _ _ _ (ni 3 0 (by omega))).trans ((World.cell?_setCell_other _ _ _ _ (ni 2 0 (by omega))).trans h.c0))
  | 1, hu => simp at hu; subst hu; exact (World.cell?_setCell_other _ _ _ _ (ni 4 1 (by omega))).trans ((World.cell?_setCell_other _ _ _ _ (ni 3 1 (by omega))).trans ((World.cell?_setCell_other _ _ _ _ (ni 2 1 (by omega))).trans h.c1))
  | 2, hu => simp at hu; subst hu; exact (World.cell?_setCell_other _ _ _ _ (ni 4 2 (by omega))).trans ((World.cell?_setCell_other _ _ _ _ (ni 3 2 (by omega))).trans (World.cell?_setCell_same' _ _ _ (by rw [h.c2]; rfl)))
  | 3, hu => simp at hu; subst hu; exact (World.cell?_setCell_other _ _ _ _ (ni 4 3 (by omega))).trans (World.cell?_setCell_same' _ _ _ (by rw [a3]; rfl))
  | 4, hu => simp at hu; subst hu; exact World.cell?_setCell_same' _ _ _ (by rw [a4]; rfl)
  | j + 5, hu => simp at hu
theorem i64s_nil (w : World) : (Go.binOp .eql 22 (.slice none 0 0) (.slice none 0 0)).run Tryd.prog w = .ok (.bool true) w := by kernel_rfl
theorem i64s_some (a : Addr) (n c : Nat) (w : World) : (Go.binOp .eql 22 (.slice (some a) n c) (.slice none 0 0)).run Tryd.prog w = .ok (.bool false) w := by kernel_rfl
set_option maxRecDepth 100000 in
set_option maxHeartbeats 1000000 in
theorem gclone_any (v : Value) (l : List Int) (w : World) (h : IntsIn w v l) (hl : l.length ≤ 1000000) :
    Calls Tryd.prog 9 #[v] w (fun E w' => ∃ v', E = .returned v' ∧ w'.ownsRow w.heap.size 2 1 v' l.length (intVs l) ∧ Below w.heap.size w w') := by
  obtain ⟨hnl, a, cap, rfl, hnc, h2, hcap, hcells⟩ := id h
  have hown := owns_empty w (B := w.heap.size) 2 1 (Nat.le_refl _)
  have hbE : Below w.heap.size w (w.alloc (.cells #[] 2)) := (Below.refl _ _).alloc (Nat.le_refl _) _
  have hsrc : IntsIn (w.alloc (.cells #[] 2)) (.slice a l.length cap) l := h.later hbE
  cases a with
  | none =>
    have h0 := hcap rfl
    have hl0 : l = [] := by
      cases l with
      | nil => rfl
      | cons y l => simp at hnc; omega
    subst hl0
    subst h0
    have hq := i64s_nil
    clear hown hbE hsrc hcells hcap hnc h hnl h2
    go_enter Tryd.func9, Tryd.ntmps9
    go_wp2_with fail
    go_ret
    exact ⟨_, rfl, World.ownsRow_nil _ _ _ _, Below.refl _ _⟩
  | some a =>
    have Hs := Lib.hid (And.intro hown (And.intro hsrc hbE))
    have hq := i64s_some a l.length cap
    clear hown hsrc hbE hcells hcap hnc h hnl h2
    go_enter Tryd.func9, Tryd.ntmps9
    go_wp2_with (at_builtin; refine append_gen rfl _ _ 22 rfl Tryd.underlying22 Tryd.infoI64 rfl (by decide) w.heap.size _ 0 [] rfl Hs.out.1 _ l.length (intVs l) rfl Hs.out.2.1 (fun u hu => by simp [intVs] at hu; obtain ⟨_, _, rfl⟩ := hu; rfl) (by unfold maxLen; omega) (by omega) (by simp) ?_; intro v4 w4 hown4 hg4 hfr4 hb4)
    go_ret
    refine ⟨_, rfl, by simpa using hown4, hb4 _ _ Hs.out.2.2 (by simp)⟩
end Go.Proofs.YtgobcldecokppaaDoor
