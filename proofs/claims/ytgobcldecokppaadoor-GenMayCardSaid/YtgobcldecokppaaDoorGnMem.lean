/- gen: a maker in memory. -/
import Derived.Test.YtgobcldecokppaaDoorGnSpec
import Derived.Test.YtgobcldecokppaaDoorHeldZ
namespace Go.Proofs.YtgobcldecokppaaDoor
open Go.RowKit Go.Maps

/-! ### a map of names to places -/
def plcV (p : Plc) : Value := .agg #[.int .i64 p.reg, .int .i64 p.off, .int .i64 p.size]
def plcE (p : Plc) : DataW Unit := .agg [.lit (.int .i64 p.reg), .lit (.int .i64 p.off), .lit (.int .i64 p.size)]
def plcL : List Value → Option (DataW Unit × List MemPlace)
  | [.int .i64 r, .int .i64 o, .int .i64 s] => some (plcE ⟨r, o, s⟩, [])
  | _ => none
def plcD : Value → Option (DataW Unit × List MemPlace)
  | .agg a => plcL a.toList
  | _ => none
theorem plcL_inv {l : List Value} {p : Plc} {q : List MemPlace} (h : plcL l = some (plcE p, q)) : l = [.int .i64 p.reg, .int .i64 p.off, .int .i64 p.size] := by
  unfold plcL at h
  split at h
  · rename_i r o s
    simp only [plcE, Option.some.injEq, Prod.mk.injEq, DataW.agg.injEq, List.cons.injEq, DataW.lit.injEq, Lit.int.injEq, true_and, and_true] at h
    obtain ⟨⟨h1, h2, h3⟩, _⟩ := h
    rw [h1, h2, h3]
  · cases h
theorem plcD_inv {v : Value} {p : Plc} {l : List MemPlace} (h : plcD v = some (plcE p, l)) : v = plcV p := by
  cases v with
  | agg a =>
    have h1 := plcL_inv h
    unfold plcV
    rw [← h1]
  | _ => cases h
theorem pm_zero (w : World) : (zeroValue 67).run Tryd.prog w = .ok (plcV noPlc) w := by kernel_rfl
/-- Block b of w is a map of names to places. -/
def PMap (w : World) (b : Nat) (S : List ByteArray) (V : GEnv) : Prop :=
  ∃ D : DataW Unit, w.ownsMap Tryd.prog 9 plcD b S.length D ∧ S.Nodup ∧ Maps.size D = S.length ∧ (∀ kl, Maps.has D kl = true ↔ ∃ x ∈ S, kl = keyS x) ∧ ∀ y, D.atKey (keyS y) (plcE noPlc) = plcE (V y)
theorem PMap.made (w : World) : PMap (w.alloc (.map #[] 0)) w.heap.size [] (fun _ => noPlc) :=
  ⟨.map [], World.ownsMap_made w _ _ _, List.nodup_nil, rfl, fun kl => by simp [Maps.has], fun _ => rfl⟩
theorem PMap.lt {w : World} {b : Nat} {S : List ByteArray} {V : GEnv} (h : PMap w b S V) : b < w.heap.size := by obtain ⟨D, h, _⟩ := h; exact h.lt
theorem PMap.at_block {w w' : World} {b : Nat} {S : List ByteArray} {V : GEnv} (h : PMap w b S V) (hb : w'.heap[b]? = w.heap[b]?) : PMap w' b S V := by
  obtain ⟨D, ⟨es, clock, hh, r2⟩, r⟩ := h
  exact ⟨D, ⟨es, clock, hb.trans hh, r2⟩, r⟩
section
set_option maxRecDepth 100000
theorem PMap.look {w : World} {b : Nat} {S : List ByteArray} {V : GEnv} (h : PMap w b S V) (y : ByteArray) (hs : y.size ≤ maxLen) (z : Plc) (hz : V y = z) : (Instr.lookup 62 (.map (some b)) (.string y) false).run Tryd.prog w = .ok (plcV z) w := by
  obtain ⟨D, h, _, _, _, hF⟩ := h
  obtain ⟨v, ps, hrun, hv⟩ := h.lookup Tryd.strKey Tryd.underlying62 (z := plcV noPlc) (pm_zero w) (zd := plcE noPlc) (zp := []) rfl (WideMaps.keyOf_string_mk Tryd.underlying9 hs)
  have hv : plcD v = some (D.atKey (keyS y) (plcE noPlc), ps) := hv
  rw [hF y, hz] at hv
  have e := plcD_inv hv
  subst e
  exact hrun
theorem PMap.put {w : World} {b : Nat} {S : List ByteArray} {V : GEnv} (h : PMap w b S V) (hl : S.length ≤ 1000000000) (y : ByteArray) (hs : y.size ≤ maxLen) (z : Plc) : ∃ w', (Instr.mapUpdate 62 (.map (some b)) (.string y) (plcV z)).run Tryd.prog w = .ok () w' ∧ PMap w' b (insS S y) (V.put y z) ∧ Oth (· = b) w w' := by
  obtain ⟨D, h, hn, hsz0, hh, hF⟩ := h
  obtain ⟨w', hrun, h1, h2⟩ := h.update Tryd.strKey Tryd.underlying62 (by unfold maxLen; omega) (WideMaps.keyOf_string_mk Tryd.underlying9 hs) (show plcD (plcV z) = some (plcE z, []) from rfl)
  have h1 : w'.ownsMap Tryd.prog 9 plcD b (S.length + 1) (D.put (keyS y) (plcE z)) := h1
  have hsz : Maps.size (D.put (keyS y) (plcE z)) = (insS S y).length := by
    rw [size_put (h.tidy Tryd.strKey), hsz0]
    unfold insS
    by_cases hy : y ∈ S
    · rw [if_pos ((hh _).2 ⟨y, hy, rfl⟩), if_pos hy]
    · rw [if_neg (fun h => hy (by obtain ⟨z, hz, e⟩ := (hh _).1 h; rw [keyS_inj e]; exact hz)), if_neg hy]; rfl
  refine ⟨w', hrun, ⟨D.put (keyS y) (plcE z), by rw [← hsz]; exact owns_tight h1, insS_nodup hn y, hsz, fun kl => ?_, fun u => ?_⟩, .of_grown h2⟩
  · rw [hasS_put h.isMap, hh]
    constructor
    · rintro (rfl | ⟨x, hx, rfl⟩)
      · exact ⟨y, (insS_mem _ _ _).2 (.inl rfl), rfl⟩
      · exact ⟨x, (insS_mem _ _ _).2 (.inr hx), rfl⟩
    · rintro ⟨x, hx, rfl⟩
      rcases (insS_mem _ _ _).1 hx with rfl | hx
      · exact .inl rfl
      · exact .inr ⟨x, hx, rfl⟩
  · unfold GEnv.put
    by_cases e : u = y
    · subst e; simp only [if_true]; exact atKey_put_same h.isMap (isKeyS _) _ _
    · simp only [if_neg e]; rw [atKey_put_other (fun e1 => e (keyS_inj e1))]; exact hF u
theorem insS_len (S : List ByteArray) (y : ByteArray) : (insS S y).length ≤ S.length + 1 := by
  unfold insS
  split
  · omega
  · simp
variable {w : World} {ops : Array Oper} {rest : List Oper} {o : Oper} {a : Act} {Q : Exit → Act → World → Prop}
theorem pm_del (hg : o.guard = none) (m x : Operand) (hop : o.op = Op.call { callee := Callee.builtin Builtin.delete, args := #[m, x], argTypes := #[62, 9] }) (b : Nat) (S : List ByteArray) (V : GEnv) (hm : a.eval m = .map (some b)) (hown : PMap w b S V) (y : ByteArray) (hx : a.eval x = .string y)
    (hs : y.size ≤ maxLen) (hK : ∀ w', PMap w' b (S.filter fun i => decide (i ≠ y)) (V.put y noPlc) → Oth (· = b) w w' → wpList Tryd.prog ops Q rest (a.put o.dst (.tuple #[])) w') : wpList Tryd.prog ops Q (o :: rest) a w := by
  obtain ⟨D, h, hn, hsz0, hh, hF⟩ := hown
  refine wpList_delete_own w hg m x 62 9 hop 67 Tryd.strKey Tryd.underlying62 plcD b _ D hm h _ _ hx (WideMaps.keyOf_string_mk Tryd.underlying9 hs) ?_
  intro w' h1 h2
  have h1 : w'.ownsMap Tryd.prog 9 plcD b S.length (D.del (keyS y)) := h1
  have hmem : ∀ kl, Maps.has (D.del (keyS y)) kl = true ↔ ∃ x ∈ S.filter (fun i => decide (i ≠ y)), kl = keyS x := by
    intro kl
    rw [hasS_del, hh]
    constructor
    · rintro ⟨hne, x, hx, rfl⟩
      exact ⟨x, List.mem_filter.2 ⟨hx, decide_eq_true (fun e => hne (by rw [e]))⟩, rfl⟩
    · rintro ⟨x, hx, rfl⟩
      obtain ⟨h1, h2⟩ := List.mem_filter.1 hx
      exact ⟨fun e => (of_decide_eq_true h2) (keyS_inj e), x, h1, rfl⟩
  have hsz : Maps.size (D.del (keyS y)) = (S.filter fun i => decide (i ≠ y)).length := by
    have h3 := size_del (k := keyS y) (h.tidy Tryd.strKey)
    rw [hsz0] at h3
    by_cases hy : y ∈ S
    · rw [if_pos ((hh _).2 ⟨y, hy, rfl⟩)] at h3
      have h5 := filter_len hn hy
      omega
    · rw [if_neg (fun h => hy (by obtain ⟨z, hz, e⟩ := (hh _).1 h; rw [keyS_inj e]; exact hz))] at h3
      have h5 : S.filter (fun i => decide (i ≠ y)) = S := List.filter_eq_self.2 fun a ha => decide_eq_true (fun e => hy (e ▸ ha))
      rw [h5]; omega
  refine hK w' ⟨D.del (keyS y), by rw [← hsz]; exact owns_tight h1, hn.filter _, hsz, hmem, fun u => ?_⟩ (.of_turned h2)
  · unfold GEnv.put
    by_cases e : u = y
    · subst e; simp only [if_true]; exact atKey_del_same _
    · simp only [if_neg e]; rw [atKey_del_other (fun e1 => e (keyS_inj e1))]; exact hF u
end

/-! ### a maker -/
theorem Tryd.infoIns0 : (Tryd.prog.info? 58).map (fun i => (i.zero, i.size, i.bytes)) = some (some (.agg #[.int .i64 0, .int .i64 0, .int .i64 0, .int .i64 0, .int .i64 0]), 5, 40) := by kernel_rfl
theorem Tryd.infoFn0 : (Tryd.prog.info? 1).map (fun i => (i.zero, i.size, i.bytes)) = some (some .nilFunc, 1, 8) := by kernel_rfl
def OwnIns (w : World) (B : Nat) (v : Value) (l : List Ins) : Prop := w.ownsRow B 58 5 v l.length (l.flatMap Ins.cells)
/-- A maker: its block, its maps' blocks, its lists. -/
structure Mk where
  b : Nat
  f : Nat
  v : Nat
  cv : Value
  pv : Value
/-- What a maker's walk may write. -/
def Mk.T (m : Mk) (k : Nat) : Prop := k = m.b ∨ k = m.v ∨ m.cv.ownBlock = some k ∨ m.pv.ownBlock = some k
structure GS where
  code : List Ins
  V : GEnv
  regs : Int
  words : Int
  pats : List Nat
def GS.add (s : GS) (l : List Ins) : GS := { s with code := s.code ++ l, regs := regsOf s.regs l }
theorem GS.add_add (s : GS) (l l2 : List Ins) : (s.add l).add l2 = s.add (l ++ l2) := by simp [GS.add, regsOf]
theorem GS.add_len (s : GS) (l : List Ins) : (s.add l).code.length = s.code.length + l.length := by simp [GS.add]
structure GStep (w : World) (m : Mk) (w' : World) (m' : Mk) : Prop where
  oth : Oth m.T w w'
  b : m'.b = m.b
  f : m'.f = m.f
  v : m'.v = m.v
  new : ∀ k, k < w.heap.size → m'.T k → m.T k
theorem GStep.refl (w : World) (m : Mk) : GStep w m w m := ⟨Oth.refl _ _, rfl, rfl, rfl, fun _ _ h => h⟩
theorem GStep.of_below {w w' : World} (m : Mk) (h : Below w.heap.size w w') : GStep w m w' m := ⟨.of_below h, rfl, rfl, rfl, fun _ _ h => h⟩
theorem GStep.trans {w w1 w2 : World} {m m1 m2 : Mk} (h : GStep w m w1 m1) (k : GStep w1 m1 w2 m2) : GStep w m w2 m2 :=
  ⟨⟨k.oth.os.trans h.oth.os, k.oth.tape.trans h.oth.tape, k.oth.output.trans h.oth.output, Nat.le_trans h.oth.size k.oth.size, fun i hi ht => (k.oth.block i (Nat.lt_of_lt_of_le hi h.oth.size) fun e => ht (h.new i hi e)).trans (h.oth.block i hi ht)⟩, k.b.trans h.b, k.f.trans h.f, k.v.trans h.v, fun i hi ht => h.new i hi (k.new i (Nat.lt_of_lt_of_le hi h.oth.size) ht)⟩
theorem GStep.block {w w' : World} {m m' : Mk} (h : GStep w m w' m') {k : Nat} (hk : k < w.heap.size) (hT : ¬ m.T k) : w'.heap[k]? = w.heap[k]? ∧ ¬ m'.T k := ⟨h.oth.block k hk hT, fun e => hT (h.new k hk e)⟩
theorem GStep.cell {w w' : World} {m m' : Mk} (h : GStep w m w' m') {p : Addr} (hk : p.block < w.heap.size) (hT : ¬ m.T p.block) : w'.cell? p = w.cell? p := h.oth.cell hk hT
/-- What a walk may write lies from B on. -/
theorem GStep.below {w0 w w' : World} {m m' : Mk} (h : GStep w m w' m') (hB : Below w0.heap.size w0 w) (hT : ∀ k, m.T k → w0.heap.size ≤ k) : Below w0.heap.size w0 w' := hB.trans (h.oth.below hB.size hT)
/-- A function value that leads the instruction at a place to the next one. -/
def laterV (bm ba : Nat) : Value := .func (.func 44) #[] #[.pointer (some ⟨bm, 0, none⟩), .pointer (some ⟨ba, 0, none⟩)]
def Later (w : World) (m : Mk) (fv : Value) (i : Nat) : Prop := ∃ bm ba, fv = laterV bm ba ∧ w.cell? ⟨bm, 0, none⟩ = some (ptrV m.b) ∧ w.cell? ⟨ba, 0, none⟩ = some (.int .i64 (i : Int)) ∧ ¬ m.T bm ∧ ¬ m.T ba
theorem Later.step {w w' : World} {m m' : Mk} {fv : Value} {i : Nat} (h : Later w m fv i) (k : GStep w m w' m') : Later w' m' fv i := by
  obtain ⟨bm, ba, rfl, h1, h2, h3, h4⟩ := h
  have q1 := block_lt_of_cell h1
  have q2 := block_lt_of_cell h2
  exact ⟨bm, ba, rfl, by rw [k.cell q1 h3, k.b]; exact h1, (k.cell q2 h4).trans h2, (k.block q1 h3).2, (k.block q2 h4).2⟩
/-- A list of such values, the maker's own. -/
def PatAt (w : World) (m : Mk) (B : Nat) (v : Value) (l : List Nat) : Prop := ∃ fvs, w.ownsRow B 1 1 v l.length fvs ∧ ∀ (i p : Nat), l[i]? = some p → ∃ fv, fvs[i]? = some fv ∧ Later w m fv p
theorem owns_at_block {w w' : World} {B : Nat} {e : TypeId} {size : Nat} {v : Value} {n : Nat} {xs : List Value} (h : w.ownsRow B e size v n xs) (hb : ∀ k, v.ownBlock = some k → w'.heap[k]? = w.heap[k]?) : w'.ownsRow B e size v n xs := by
  obtain ⟨h1, h2⟩ := h
  refine ⟨h1, ?_⟩
  rcases h2 with h2 | ⟨g, cap, cur, hv, hg, hh, r⟩
  · exact Or.inl h2
  · exact Or.inr ⟨g, cap, cur, hv, hg, by rw [hb g (by rw [hv]; rfl)]; exact hh, r⟩
theorem PatAt.keep {w w' : World} {m m' : Mk} {B : Nat} {v : Value} {l : List Nat} (h : PatAt w m B v l) (k : GStep w m w' m') (hb : ∀ k, v.ownBlock = some k → w'.heap[k]? = w.heap[k]?) : PatAt w' m' B v l := by
  obtain ⟨fvs, h1, h2⟩ := h
  exact ⟨fvs, owns_at_block h1 hb, fun i p hp => by obtain ⟨fv, e, hl⟩ := h2 i p hp; exact ⟨fv, e, hl.step k⟩⟩
/-- A maker in memory: its blocks lie from B on; N bounds the number of names. -/
structure MkAt (w : World) (B : Nat) (m : Mk) (F : ByteArray → Int) (N : Nat) (s : GS) : Prop where
  c0 : w.cell? ⟨m.b, 0, none⟩ = some m.cv
  c1 : w.cell? ⟨m.b, 1, none⟩ = some (.map (some m.f))
  c2 : w.cell? ⟨m.b, 2, none⟩ = some (.map (some m.v))
  c3 : w.cell? ⟨m.b, 3, none⟩ = some (.int .i64 s.regs)
  c4 : w.cell? ⟨m.b, 4, none⟩ = some (.int .i64 s.words)
  c5 : w.cell? ⟨m.b, 5, none⟩ = some m.pv
  fr : ∀ j, w.frozen? ⟨m.b, j, none⟩ = false
  code : OwnIns w B m.cv s.code
  funcs : ∃ S, SMap w m.f S F
  vars : ∃ S, PMap w m.v S s.V ∧ S.length ≤ N
  pats : PatAt w m B m.pv s.pats
  pin : ∀ p ∈ s.pats, p < s.code.length
  lo : B ≤ m.f ∧ B ≤ m.v ∧ B ≤ m.b
  ne : m.f ≠ m.v ∧ m.f ≠ m.b ∧ m.v ≠ m.b
  apc : ∀ k, m.cv.ownBlock = some k → k ≠ m.f ∧ k ≠ m.v ∧ k ≠ m.b ∧ m.pv.ownBlock ≠ some k
  app : ∀ k, m.pv.ownBlock = some k → k ≠ m.f ∧ k ≠ m.v ∧ k ≠ m.b
  vreg : ∀ y, 0 ≤ (s.V y).reg ∧ (s.V y).reg ≤ 1000000000000
section
variable {w w' : World} {B : Nat} {m : Mk} {F : ByteArray → Int} {N : Nat} {s : GS}
theorem MkAt.in (h : MkAt w B m F N s) : m.b < w.heap.size := block_lt_of_cell h.c0
theorem MkAt.low (h : MkAt w B m F N s) : ∀ k, m.T k → B ≤ k := by
  rintro k (e | e | e | e)
  · rw [e]; exact h.lo.2.2
  · rw [e]; exact h.lo.2.1
  · exact (World.ownsRow.lt h.code k e).1
  · obtain ⟨fvs, h1, _⟩ := h.pats; exact (World.ownsRow.lt h1 k e).1
theorem MkAt.inT (h : MkAt w B m F N s) : ∀ k, m.T k → k < w.heap.size := by
  rintro k (e | e | e | e)
  · rw [e]; exact h.in
  · rw [e]; obtain ⟨S, h1, _⟩ := h.vars; exact h1.lt
  · exact (World.ownsRow.lt h.code k e).2
  · obtain ⟨fvs, h1, _⟩ := h.pats; exact (World.ownsRow.lt h1 k e).2
theorem MkAt.notf (h : MkAt w B m F N s) : ¬ m.T m.f := by
  rintro (e | e | e | e)
  · exact h.ne.2.1 e
  · exact h.ne.1 e
  · exact (h.apc _ e).1 rfl
  · exact (h.app _ e).1 rfl
theorem MkAt.later (h : MkAt w B m F N s) (hb : Below w.heap.size w w') : MkAt w' B m F N s := by
  have q := h.in
  have k := fun j => hb.cell (p := ⟨m.b, j, none⟩) q
  obtain ⟨S, hS⟩ := h.funcs
  obtain ⟨S2, hS2, hn⟩ := h.vars
  refine ⟨(k _).trans h.c0, (k _).trans h.c1, (k _).trans h.c2, (k _).trans h.c3, (k _).trans h.c4, (k _).trans h.c5, fun j => (hb.frozen (p := ⟨m.b, j, none⟩) q).trans (h.fr j), ownsRow_below h.code hb (Nat.le_refl _), ⟨S, hS.later hb hS.lt⟩, ⟨S2, hS2.at_block (hb.block _ hS2.lt), hn⟩, ?_, h.pin, h.lo, h.ne, h.apc, h.app, h.vreg⟩
  exact h.pats.keep (.of_below m hb) fun k hk => hb.block k (h.inT k (.inr (.inr (.inr hk))))
theorem MkAt.mono (h : MkAt w B m F N s) {N' : Nat} (hN : N ≤ N') : MkAt w B m F N' s := by
  obtain ⟨S, h1, h2⟩ := h.vars
  exact ⟨h.c0, h.c1, h.c2, h.c3, h.c4, h.c5, h.fr, h.code, h.funcs, ⟨S, h1, Nat.le_trans h2 hN⟩, h.pats, h.pin, h.lo, h.ne, h.apc, h.app, h.vreg⟩
/-- A step from which the maker itself stands as it stood. -/
theorem GStep.same {T : Nat → Prop} (m : Mk) (h : Oth T w w') (hT : ∀ k, T k → m.T k) : GStep w m w' m := ⟨h.imp fun k _ hk => hT k hk, rfl, rfl, rfl, fun _ _ h => h⟩
/-- One of a maker's numbers is written. -/
theorem MkAt.set3 (h : MkAt w B m F N s) (z : Int) : MkAt (w.setCell ⟨m.b, 3, none⟩ (.int .i64 z)) B m F N { s with regs := z } ∧ GStep w m (w.setCell ⟨m.b, 3, none⟩ (.int .i64 z)) m := by
  have hO : Oth (· = m.b) w (w.setCell ⟨m.b, 3, none⟩ (.int .i64 z)) := (Oth.refl (· = m.b) w).set (p := ⟨m.b, 3, none⟩) rfl _
  have hG := GStep.same m hO fun k e => .inl e
  have ne : ∀ j, j ≠ 3 → (w.setCell ⟨m.b, 3, none⟩ (.int .i64 z)).cell? ⟨m.b, j, none⟩ = w.cell? ⟨m.b, j, none⟩ := fun j hj => World.cell?_setCell_other _ _ _ _ (by intro e; injection e with e1 e2; exact hj e2.symm)
  obtain ⟨S, hS⟩ := h.funcs
  obtain ⟨S2, hS2, hn⟩ := h.vars
  have hb : ∀ k, k < w.heap.size → k ≠ m.b → (w.setCell ⟨m.b, 3, none⟩ (.int .i64 z)).heap[k]? = w.heap[k]? := fun k hk e => hO.block k hk e
  refine ⟨⟨(ne 0 (by omega)).trans h.c0, (ne 1 (by omega)).trans h.c1, (ne 2 (by omega)).trans h.c2, World.cell?_setCell_same' _ _ _ (by rw [h.c3]; rfl), (ne 4 (by omega)).trans h.c4, (ne 5 (by omega)).trans h.c5, fun j => (World.frozen?_setCell _ _ _ _).trans (h.fr j), owns_at_block h.code fun k hk => hb k (h.inT k (.inr (.inr (.inl hk)))) (h.apc k hk).2.2.1, ⟨S, hS.at_block (hb _ hS.lt h.ne.2.1)⟩, ⟨S2, hS2.at_block (hb _ hS2.lt h.ne.2.2), hn⟩, ?_, h.pin, h.lo, h.ne, h.apc, h.app, h.vreg⟩, hG⟩
  exact h.pats.keep hG fun k hk => hb k (h.inT k (.inr (.inr (.inr hk)))) (h.app k hk).2.2
theorem MkAt.set4 (h : MkAt w B m F N s) (z : Int) : MkAt (w.setCell ⟨m.b, 4, none⟩ (.int .i64 z)) B m F N { s with words := z } ∧ GStep w m (w.setCell ⟨m.b, 4, none⟩ (.int .i64 z)) m := by
  have hO : Oth (· = m.b) w (w.setCell ⟨m.b, 4, none⟩ (.int .i64 z)) := (Oth.refl (· = m.b) w).set (p := ⟨m.b, 4, none⟩) rfl _
  have hG := GStep.same m hO fun k e => .inl e
  have ne : ∀ j, j ≠ 4 → (w.setCell ⟨m.b, 4, none⟩ (.int .i64 z)).cell? ⟨m.b, j, none⟩ = w.cell? ⟨m.b, j, none⟩ := fun j hj => World.cell?_setCell_other _ _ _ _ (by intro e; injection e with e1 e2; exact hj e2.symm)
  obtain ⟨S, hS⟩ := h.funcs
  obtain ⟨S2, hS2, hn⟩ := h.vars
  have hb : ∀ k, k < w.heap.size → k ≠ m.b → (w.setCell ⟨m.b, 4, none⟩ (.int .i64 z)).heap[k]? = w.heap[k]? := fun k hk e => hO.block k hk e
  refine ⟨⟨(ne 0 (by omega)).trans h.c0, (ne 1 (by omega)).trans h.c1, (ne 2 (by omega)).trans h.c2, (ne 3 (by omega)).trans h.c3, World.cell?_setCell_same' _ _ _ (by rw [h.c4]; rfl), (ne 5 (by omega)).trans h.c5, fun j => (World.frozen?_setCell _ _ _ _).trans (h.fr j), owns_at_block h.code fun k hk => hb k (h.inT k (.inr (.inr (.inl hk)))) (h.apc k hk).2.2.1, ⟨S, hS.at_block (hb _ hS.lt h.ne.2.1)⟩, ⟨S2, hS2.at_block (hb _ hS2.lt h.ne.2.2), hn⟩, ?_, h.pin, h.lo, h.ne, h.apc, h.app, h.vreg⟩, hG⟩
  exact h.pats.keep hG fun k hk => hb k (h.inT k (.inr (.inr (.inr hk)))) (h.app k hk).2.2
/-- What is known of a name is turned. -/
theorem MkAt.putV (h : MkAt w B m F N s) (hO : Oth (· = m.v) w w') {S : List ByteArray} {V : GEnv} {N' : Nat} (hp : PMap w' m.v S V) (hn : S.length ≤ N') (hr : ∀ y, 0 ≤ (V y).reg ∧ (V y).reg ≤ 1000000000000) : MkAt w' B m F N' { s with V := V } ∧ GStep w m w' m := by
  have hG := GStep.same m hO fun k e => .inr (.inl e)
  have q := h.in
  have k := fun j => hO.cell (p := ⟨m.b, j, none⟩) q (fun e => h.ne.2.2 e.symm)
  obtain ⟨S1, hS⟩ := h.funcs
  have hb : ∀ k, k < w.heap.size → k ≠ m.v → w'.heap[k]? = w.heap[k]? := fun k hk e => hO.block k hk e
  refine ⟨⟨(k _).trans h.c0, (k _).trans h.c1, (k _).trans h.c2, (k _).trans h.c3, (k _).trans h.c4, (k _).trans h.c5, fun j => (hO.frozen (p := ⟨m.b, j, none⟩) q (fun e => h.ne.2.2 e.symm)).trans (h.fr j), owns_at_block h.code fun k hk => hb k (h.inT k (.inr (.inr (.inl hk)))) (h.apc k hk).2.1, ⟨S1, hS.at_block (hb _ hS.lt h.ne.1)⟩, ⟨S, hp, hn⟩, ?_, h.pin, h.lo, h.ne, h.apc, h.app, hr⟩, hG⟩
  exact h.pats.keep hG fun k hk => hb k (h.inT k (.inr (.inr (.inr hk)))) (h.app k hk).2.1
/-- The list of the code becomes another one (an append). -/
theorem MkAt.grow {w4 : World} (h : MkAt w B m F N s) (hb : Below w.heap.size w w') {cv' : Value} {l : List Ins} (hown : OwnIns w4 B cv' l) (hlen : s.code.length ≤ l.length) (hg : w'.grownBy w4 m.cv.ownBlock) (hfr : Fresh w' m.cv cv') :
    (w4.cell? ⟨m.b, 0, none⟩ = some m.cv ∧ w4.frozen? ⟨m.b, 0, none⟩ = false) ∧ MkAt (w4.setCell ⟨m.b, 0, none⟩ cv') B { m with cv := cv' } F N { s with code := l } ∧ GStep w m (w4.setCell ⟨m.b, 0, none⟩ cv') { m with cv := cv' } := by
  have q := h.in
  have hOa : Oth (fun j => m.cv.ownBlock = some j) w w' := .of_below hb
  have hO1 : Oth (fun j => m.cv.ownBlock = some j) w w4 := hOa.trans ⟨hg.os, hg.tape, hg.output, hg.size, fun i hi hc => hg.block i hi (fun e => hc e.symm)⟩
  have hnb : ¬ m.cv.ownBlock = some m.b := fun e => (h.apc _ e).2.2.1 rfl
  have hO : Oth (fun j => j = m.b ∨ m.cv.ownBlock = some j) w (w4.setCell ⟨m.b, 0, none⟩ cv') := (Oth.imp (T := fun j => j = m.b ∨ m.cv.ownBlock = some j) hO1 fun k _ e => Or.inr e).set (p := ⟨m.b, 0, none⟩) (.inl rfl) _
  have hcv : ∀ k, k < w.heap.size → cv'.ownBlock = some k → m.cv.ownBlock = some k := fun k hk e => by
    by_cases h1 : m.cv.ownBlock = some k
    · exact h1
    · exact absurd e (hfr k (Nat.lt_of_lt_of_le hk hb.size) h1)
  have hG : GStep w m (w4.setCell ⟨m.b, 0, none⟩ cv') { m with cv := cv' } := ⟨hO.imp fun k _ e => by rcases e with e | e; exact .inl e; exact .inr (.inr (.inl e)), rfl, rfl, rfl, fun k hk e => by
    rcases e with e | e | e | e
    · exact .inl e
    · exact .inr (.inl e)
    · exact .inr (.inr (.inl (hcv k hk e)))
    · exact .inr (.inr (.inr e))⟩
  have d : ∀ j, w4.cell? ⟨m.b, j, none⟩ = w.cell? ⟨m.b, j, none⟩ := fun j => hO1.cell (p := ⟨m.b, j, none⟩) q hnb
  have ne : ∀ j, j ≠ 0 → (w4.setCell ⟨m.b, 0, none⟩ cv').cell? ⟨m.b, j, none⟩ = w.cell? ⟨m.b, j, none⟩ := fun j hj => (World.cell?_setCell_other _ _ _ _ (by intro e; injection e with e1 e2; exact hj e2.symm)).trans (d j)
  have f4 : ∀ j, w4.frozen? ⟨m.b, j, none⟩ = false := fun j => (hO1.frozen (p := ⟨m.b, j, none⟩) q hnb).trans (h.fr j)
  obtain ⟨S, hS⟩ := h.funcs
  obtain ⟨S2, hS2, hn⟩ := h.vars
  have hk : ∀ k, k < w.heap.size → k ≠ m.b → m.cv.ownBlock ≠ some k → (w4.setCell ⟨m.b, 0, none⟩ cv').heap[k]? = w.heap[k]? := fun k hk e1 e2 => hO.block k hk (by rintro (e | e); exact e1 e; exact e2 e)
  have hlt4 := World.ownsRow.lt hown
  refine ⟨⟨(d 0).trans h.c0, f4 0⟩, ⟨World.cell?_setCell_same' _ _ _ (by rw [d 0, h.c0]; rfl), (ne 1 (by omega)).trans h.c1, (ne 2 (by omega)).trans h.c2, (ne 3 (by omega)).trans h.c3, (ne 4 (by omega)).trans h.c4, (ne 5 (by omega)).trans h.c5, fun j => (World.frozen?_setCell _ _ _ _).trans (f4 j), ?_, ⟨S, hS.at_block (hk _ hS.lt h.ne.2.1 fun e => (h.apc _ e).1 rfl)⟩, ⟨S2, hS2.at_block (hk _ hS2.lt h.ne.2.2 fun e => (h.apc _ e).2.1 rfl), hn⟩, ?_, fun p hp => Nat.lt_of_lt_of_le (h.pin p hp) hlen, h.lo, h.ne, fun k e => ?_, h.app, h.vreg⟩, hG⟩
  · exact ownsRow_setCell_other hown (fun e => by
      have e' : cv'.ownBlock = some m.b := e
      exact hnb (hcv _ q e')) _
  · exact h.pats.keep hG fun k hk' => hk k (h.inT k (.inr (.inr (.inr hk')))) (h.app k hk').2.2 fun e => (h.apc k e).2.2.2 hk'
  · by_cases hlt : k < w.heap.size
    · exact h.apc k (hcv k hlt e)
    · refine ⟨fun (e : k = m.f) => ?_, fun (e : k = m.v) => ?_, fun (e : k = m.b) => ?_, fun e => ?_⟩
      · have := hS.lt; omega
      · have := hS2.lt; omega
      · omega
      · have := h.inT k (.inr (.inr (.inr e))); omega
end
end Go.Proofs.YtgobcldecokppaaDoor
