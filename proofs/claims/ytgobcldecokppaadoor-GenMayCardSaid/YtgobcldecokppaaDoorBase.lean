/- Small definitions and lemmas that all walks of this seat use. -/
import Derived.Test.YtgobcldecokppaaDoorProg
import Derived.WalkKit
import Derived.WalkSpells
import Derived.WalkLawsBesides
import Derived.Lib.Hide
import Derived.Deep.DeepCutAuto
import Derived.Deep.CutBlock
import Derived.Deep.LoopGhost
import Derived.Deep.Light
import Derived.Deep.QuietTactic
import Derived.BigQuiet
namespace Go.Proofs.YtgobcldecokppaaDoor
open Go.RowKit

theorem ret_int {k : IntKind} {a b : Int} (h : a = b) : Ending.returned (.int k a) = .returned (.int k b) := by rw [h]
theorem ret_bool {a b : Bool} (h : a = true ↔ b = true) : Ending.returned (.bool a) = .returned (.bool b) := by rw [Bool.eq_iff_iff.2 h]

/-- An instruction, as plain data. -/
structure Ins where
  op : Int
  a : Int
  b : Int
  c : Int
  n : Int
  deriving DecidableEq, Inhabited

def Ins.cells (x : Ins) : List Value := [.int .i64 x.op, .int .i64 x.a, .int .i64 x.b, .int .i64 x.c, .int .i64 x.n]

/-- The slice value v reads in w as n elements of size cells each: the cells cs. -/
def SliceIn (w : World) (v : Value) (n size : Nat) (cs : List Value) : Prop :=
  cs.length = n * size ∧ ∃ a cap, v = .slice a n cap ∧ n ≤ cap ∧ cap ≤ maxLen ∧ (a = none → cap = 0) ∧
    (0 < n → ∃ b off, a = some ⟨b, off, none⟩ ∧ b < w.heap.size ∧ ∀ j u, cs[j]? = some u → w.cell? ⟨b, off + j, none⟩ = some u)

theorem SliceIn.later {w w' : World} {v : Value} {n size : Nat} {cs : List Value} (h : SliceIn w v n size cs) (hb : Below w.heap.size w w') : SliceIn w' v n size cs := by
  obtain ⟨h1, a, cap, rfl, h2, h3, h4, h5⟩ := h
  refine ⟨h1, a, cap, rfl, h2, h3, h4, fun h0 => ?_⟩
  obtain ⟨b, off, rfl, hlt, hc⟩ := h5 h0
  exact ⟨b, off, rfl, Nat.lt_of_lt_of_le hlt hb.size, fun j u hu => (hb.cell (p := ⟨b, off + j, none⟩) hlt).trans (hc j u hu)⟩

def intVs (l : List Int) : List Value := l.map (Value.int .i64)
def IntsIn (w : World) (v : Value) (l : List Int) : Prop := SliceIn w v l.length 1 (intVs l)
def boolVs (l : List Bool) : List Value := l.map Value.bool
def BoolsIn (w : World) (v : Value) (l : List Bool) : Prop := SliceIn w v l.length 1 (boolVs l)
def CodeIn (w : World) (v : Value) (l : List Ins) : Prop := SliceIn w v l.length 5 (l.flatMap Ins.cells)
/-- v is a list of ints of the call's own, from block B on. -/
def OwnInts (w : World) (B : Nat) (v : Value) (l : List Int) : Prop := w.ownsRow B 3 1 v l.length (intVs l)

/-- v is a list of bools of the call's own, from block B on. -/
def OwnBools (w : World) (B : Nat) (v : Value) (l : List Bool) : Prop := w.ownsRow B 4 1 v l.length (boolVs l)

theorem size_set (w : World) (a : Addr) (v : Value) : (w.setCell a v).heap.size = w.heap.size := by simp [World.setCell]

theorem ownsRow_mono {w : World} {B B' : Nat} {e : TypeId} {size : Nat} {v : Value} {n : Nat} {xs : List Value} (h : w.ownsRow B e size v n xs) (hB : B' ≤ B) : w.ownsRow B' e size v n xs := by
  obtain ⟨h1, h2⟩ := h
  refine ⟨h1, ?_⟩
  rcases h2 with h2 | ⟨g, cap, cur, hv, hg, r⟩
  · exact Or.inl h2
  · exact Or.inr ⟨g, cap, cur, hv, Nat.le_trans hB hg, r⟩

/-- What is owned below B stays so. -/
theorem ownsRow_below {w w' : World} {B C : Nat} {e : TypeId} {size : Nat} {v : Value} {n : Nat} {xs : List Value} (h : w.ownsRow B e size v n xs) (hb : Below C w w') (hC : w.heap.size ≤ C) : w'.ownsRow B e size v n xs := by
  obtain ⟨h1, h2⟩ := h
  refine ⟨h1, ?_⟩
  rcases h2 with h2 | ⟨g, cap, cur, hv, hg, hh, r⟩
  · exact Or.inl h2
  · exact Or.inr ⟨g, cap, cur, hv, hg, by rw [hb.block g (Nat.lt_of_lt_of_le (Array.getElem?_eq_some_iff.1 hh).1 hC)]; exact hh, r⟩

theorem SliceIn.of_owns {w : World} {B : Nat} {e : TypeId} {size : Nat} {v : Value} {n : Nat} {xs : List Value} (h : w.ownsRow B e size v n xs) : SliceIn w v n size xs := by
  refine ⟨h.1, ?_⟩
  rcases h.2 with ⟨rfl, rfl⟩ | ⟨g, cap, cur, rfl, hg, hh, hn, hm, hs, ht⟩
  · exact ⟨none, 0, rfl, Nat.le_refl _, Nat.zero_le _, fun _ => rfl, fun h => absurd h (Nat.lt_irrefl _)⟩
  · refine ⟨_, _, rfl, hn, hm, (by intro h; cases h), fun _ => ⟨g, 0, rfl, (Array.getElem?_eq_some_iff.1 hh).1, fun j u hu => ?_⟩⟩
    rw [Nat.zero_add, cell_of_row w g j cur e (0, 0) hh, ← Array.getElem?_toList]
    rw [← ht, List.getElem?_take] at hu
    split at hu
    · exact hu
    · cases hu

theorem owns_empty (w : World) {B : Nat} (e : TypeId) (size : Nat) (hB : B ≤ w.heap.size) : (w.alloc (.cells #[] e)).ownsRow B e size (.slice (some ⟨w.heap.size, 0, none⟩) 0 0) 0 [] :=
  World.ownsRow_made w #[] 0 hB (Nat.zero_le _) (by simp)

/-- A new block holds a list of the call's own. -/
theorem owns_new (w : World) {B : Nat} {e : TypeId} (n : Nat) (xs : List Value) (hB : B ≤ w.heap.size) (hx : xs.length = n) (hn : n ≤ 1000) :
    (w.alloc (.cells xs.toArray e)).ownsRow B e 1 (.slice (some ⟨w.heap.size, 0, none⟩) n n) n xs :=
  ⟨by omega, .inr ⟨w.heap.size, n, xs.toArray, rfl, hB, heap_alloc_new w _, Nat.le_refl _, (by unfold maxLen; omega), (by simp; omega), (by rw [Nat.mul_one, ← hx]; simp)⟩⟩

theorem flat_cells (l : List Ins) (k j : Nat) (hj : j < 5) : (l.flatMap Ins.cells)[k * 5 + j]? = (l[k]?).bind fun x => x.cells[j]? := by
  induction l generalizing k with
  | nil => simp
  | cons x l ih =>
    cases k with
    | zero =>
      simp only [List.flatMap_cons, Nat.zero_mul, Nat.zero_add, List.getElem?_cons_zero, Option.bind_some]
      exact List.getElem?_append_left (by simpa [Ins.cells] using hj)
    | succ k =>
      have := ih k
      simp only [List.flatMap_cons, List.getElem?_cons_succ]
      rw [List.getElem?_append_right (by simp [Ins.cells]; omega), show (k + 1) * 5 + j - x.cells.length = k * 5 + j by simp [Ins.cells]; omega, this]

/-- The cells of an instruction. -/
theorem CodeIn.at {w : World} {b off len cap : Nat} {l : List Ins} {v : Value} (h : CodeIn w v l) (hv : v = .slice (some ⟨b, off, none⟩) len cap) {k : Nat} {x : Ins} (hx : l[k]? = some x) :
    w.cell? ⟨b, off + k * 5, none⟩ = some (.int .i64 x.op) ∧ w.cell? ⟨b, off + k * 5 + 1, none⟩ = some (.int .i64 x.a) ∧ w.cell? ⟨b, off + k * 5 + 2, none⟩ = some (.int .i64 x.b) ∧
    w.cell? ⟨b, off + k * 5 + 3, none⟩ = some (.int .i64 x.c) ∧ w.cell? ⟨b, off + k * 5 + 4, none⟩ = some (.int .i64 x.n) := by
  subst hv
  obtain ⟨_, a, cap', hv, _, _, _, hc⟩ := h
  cases hv
  have hk : k < l.length := (List.getElem?_eq_some_iff.1 hx).1
  obtain ⟨b', off', ha, _, hc⟩ := hc (by omega)
  cases ha
  have f : ∀ j u, j < 5 → x.cells[j]? = some u → w.cell? ⟨b, off + (k * 5 + j), none⟩ = some u := fun j u hj hu => hc _ _ (by rw [flat_cells l k j hj, hx]; exact hu)
  have g : ∀ j u, j < 5 → x.cells[j]? = some u → w.cell? ⟨b, off + k * 5 + j, none⟩ = some u := fun j u hj hu => by rw [Nat.add_assoc]; exact f j u hj hu
  exact ⟨g 0 _ (by omega) rfl, g 1 _ (by omega) rfl, g 2 _ (by omega) rfl, g 3 _ (by omega) rfl, g 4 _ (by omega) rfl⟩

theorem Tryd.infoBool : (Tryd.prog.info? 4).map (fun i => (i.zero, i.size, i.bytes)) = some (some (.bool false), 1, 1) := by kernel_rfl
theorem Tryd.infoInt : (Tryd.prog.info? 3).map (fun i => (i.zero, i.size, i.bytes)) = some (some (.int .i64 0), 1, 8) := by kernel_rfl

/-- The call answers v and only reads (it may draw). -/
def Reads (v : Value) (w : World) (e : Ending) (w' : World) : Prop := e = .returned v ∧ ∃ q, w' = w.drewN q
/-- The call answers v and leaves all that was there. -/
def Gives (v : Value) (w : World) (e : Ending) (w' : World) : Prop := e = .returned v ∧ Below w.heap.size w w'
theorem below_draws (w : World) (q : Nat) : Below w.heap.size w (w.drewN q) := below_drewN (Below.refl _ _) q
theorem Reads.gives {v : Value} {w w' : World} {e : Ending} (h : Reads v w e w') : Gives v w e w' := by
  obtain ⟨h1, q, rfl⟩ := h
  exact ⟨h1, below_draws _ _⟩

/-- What an append leaves besides: a block that was there, and is not the list's own, is not its own behind either. -/
def Fresh (w : World) (v v' : Value) : Prop := ∀ k, k < w.heap.size → v.ownBlock ≠ some k → v'.ownBlock ≠ some k

theorem append_run {P : Program} {w : World} {t ty e : TypeId} {z : Value} {size bytes : Nat} (ht : P.underlying t = some (.slice e)) (hinfo : (P.info? e).map (fun i => (i.zero, i.size, i.bytes)) = some (some z, size, bytes))
    (hzs : z.cells.size = size) (hsz : 0 < size) (B : Nat) (v : Value) (n : Nat) (xs : List Value) (hown : w.ownsRow B e size v n xs) (sv : Value) (m : Nat) (news : List Value) (hsrc : SliceIn w sv m size news) (h1 : ∀ u ∈ news, u.oneCell' = true)
    (h63 : n + m ≤ maxLen) (hbytes : (n + m) * bytes ≤ 140737488355328) (hB : B ≤ w.heap.size) :
    ∃ v' w', (Builtin.append_ #[t, t] ty #[v, sv]).run P w = .ok v' w' ∧ w'.ownsRow B e size v' (n + m) (xs ++ news) ∧ w.grownBy w' v.ownBlock ∧ Fresh w v v' := by
  obtain ⟨i, hi, hz, hs, hb⟩ := info_parts hinfo
  obtain ⟨hnl, a, cap, rfl, hnc, _, hcap, hcells⟩ := hsrc
  cases a with
  | none =>
    obtain rfl := hcap rfl
    obtain rfl : m = 0 := by omega
    obtain rfl : news = [] := List.eq_nil_of_length_eq_zero (by simpa using hnl)
    exact ⟨v, w, run_append_owned_none (P := P) w B t ty e i size ht hi v n xs hown, by simpa using hown, World.grownBy.refl _ _, fun k _ h => h⟩
  | some a =>
    have hc : ∀ j u, news[j]? = some u → w.cell? (a.add j) = some u := by
      intro j u hu
      by_cases h0 : 0 < m
      · obtain ⟨b, off, ha, _, hc⟩ := hcells h0
        cases ha
        rw [Addr.add_lit]; exact hc j u hu
      · have : news = [] := List.eq_nil_of_length_eq_zero (by rw [hnl, show m = 0 by omega]; simp)
        subst this; simp at hu
    obtain ⟨v', w', hr, ho, hg, hnil⟩ := run_append_own (P := P) w B t ty e i z size bytes ht hi hz hs hb hzs hsz v n xs hown a m cap news hnl hc h1 h63 hbytes hB
    refine ⟨v', w', hr, ho, hg, fun k hk hv => ?_⟩
    subst hs; subst hb
    have hmx : n + m ≤ 9223372036854775807 := by unfold maxLen at h63; omega
    rcases hown.2 with ⟨rfl, rfl⟩ | ⟨g, vcap, cur, rfl, hbg, hgh, hnv, hcm, hcs, htake⟩
    · by_cases hm : m = 0
      · rw [(hnil.2 ⟨rfl, hm⟩)]; simp [Value.ownBlock]
      · have hr2 := run_append_nil (P := P) w t ty e i z ht hi hz a m cap news hnl hc (by omega) (by omega) (by simp only [Nat.zero_add] at hbytes; omega)
        rw [hr] at hr2
        cases hr2
        simp [Value.ownBlock]; omega
    · by_cases hroom : n + m ≤ vcap
      · have hfit : n * i.size + news.length ≤ cur.size := by rw [hnl, hcs, ← Nat.add_mul]; exact Nat.mul_le_mul_right _ hroom
        have hr2 := run_append_room (P := P) w t ty e i ht hi g n vcap cur hgh a m cap news hnl hc h1 hroom hfit
        rw [hr] at hr2
        cases hr2
        exact hv
      · have holds : ∀ j u, xs[j]? = some u → w.cell? ((⟨g, 0, none⟩ : Addr).add j) = some u := hown.cells (g := g) rfl
        have hr2 := run_append_grow (P := P) w t ty e i z ht hi hz ⟨g, 0, none⟩ n vcap xs hown.1 holds a m cap news hnl hc (by omega) (by omega) (growslice_fits (by omega) hbytes)
        rw [hr] at hr2
        cases hr2
        simp [Value.ownBlock]; omega

/-- 'out = append(out, src...)' at the walk. -/
theorem append_gen {P : Program} {ops : Array Oper} {rest : List Oper} {o : Oper} {a : Act} {Q : Exit → Act → World → Prop} {w : World} (hgd : o.guard = none) (s x : Operand) (t : TypeId)
    (ho : o.op = .call { callee := .builtin .append, args := #[s, x], argTypes := #[t, t] })
    {e : TypeId} {z : Value} {size bytes : Nat} (ht : P.underlying t = some (.slice e)) (hinfo : (P.info? e).map (fun i => (i.zero, i.size, i.bytes)) = some (some z, size, bytes))
    (hzs : z.cells.size = size) (hsz : 0 < size) (B : Nat) (v : Value) (n : Nat) (xs : List Value) (hs : a.eval s = v) (hown : w.ownsRow B e size v n xs) (sv : Value) (m : Nat) (news : List Value) (hx : a.eval x = sv) (hsrc : SliceIn w sv m size news) (h1 : ∀ u ∈ news, u.oneCell' = true)
    (h63 : n + m ≤ maxLen) (hbytes : (n + m) * bytes ≤ 140737488355328) (hB : B ≤ w.heap.size)
    (h : ∀ v' w', w'.ownsRow B e size v' (n + m) (xs ++ news) → w.grownBy w' v.ownBlock → Fresh w v v' → (∀ C w0, Below C w0 w → C ≤ B → Below C w0 w') → wpList P ops Q rest (a.put o.dst v') w') : wpList P ops Q (o :: rest) a w := by
  obtain ⟨v', w', hr, h2, h3, h4⟩ := append_run (ty := o.type) ht hinfo hzs hsz B v n xs hown sv m news hsrc h1 h63 hbytes hB
  refine wpList_plain hgd fun K hK => ?_
  unfold Oper.wp execOp
  simp only [ho, resolve, invoke, builtin, Sem.run_bind, Sem.run_pure, Result.andThen_ok, List.map_toArray, List.map_cons, List.map_nil, hs, hx, hr]
  refine hK _ _ (h v' w' h2 h3 h4 fun C w0 hb hC => hb.grown h3 (by omega) fun k hk => ?_)
  have := (World.ownsRow.lt hown k hk).1
  omega

/-- A new block of one value is a list of one. -/
theorem sliceIn_new (w : World) (cs : List Value) (n size : Nat) (e : TypeId) (hn : cs.length = n * size) (hm : n ≤ maxLen) : SliceIn (w.alloc (.cells cs.toArray e)) (.slice (some ⟨w.heap.size, 0, none⟩) n n) n size cs :=
  ⟨hn, _, _, rfl, Nat.le_refl _, hm, (by intro h; cases h), fun _ => ⟨_, _, rfl, by simp, fun j u hu => by rw [World.cell?_alloc_at _ _ _ _ rfl]; simpa using hu⟩⟩

/-- 'out = append(out, y)', out a list of ints of the call's own. -/
theorem append_int {ops : Array Oper} {rest : List Oper} {o : Oper} {a : Act} {Q : Exit → Act → World → Prop} {w : World} (hgd : o.guard = none) (s x : Operand)
    (ho : o.op = .call { callee := .builtin .append, args := #[s, x], argTypes := #[103, 103] })
    (B : Nat) (v : Value) (l : List Int) (hs : a.eval s = v) (hown : OwnInts w B v l) (y : Int) (hx : a.eval x = .slice (some ⟨w.heap.size, 0, none⟩) 1 1)
    (hl : l.length ≤ 1000000000000) (hB : B ≤ w.heap.size)
    (h : ∀ v' w', OwnInts w' B v' (l ++ [y]) → (w.alloc (.cells #[.int .i64 y] 3)).grownBy w' v.ownBlock → Fresh (w.alloc (.cells #[.int .i64 y] 3)) v v' → (∀ C w0, Below C w0 w → C ≤ B → Below C w0 w') → wpList Tryd.prog ops Q rest (a.put o.dst v') w') :
    wpList Tryd.prog ops Q (o :: rest) a (w.alloc (.cells #[.int .i64 y] 3)) := by
  refine append_gen hgd s x 103 ho Tryd.underlying103 Tryd.infoInt rfl (by decide) B v l.length (intVs l) hs (World.ownsRow.alloc hown _) _ 1 [.int .i64 y] hx (sliceIn_new w [.int .i64 y] 1 1 3 rfl (by decide)) ?_ ?_ ?_ ?_ ?_
  · intro u hu; simp at hu; subst hu; rfl
  · unfold maxLen; omega
  · omega
  · simp; omega
  · intro v' w' h1 h2 h3 h4
    exact h v' w' (by unfold OwnInts intVs at *; simpa using h1) h2 h3 fun C w0 hb hC => h4 C w0 (hb.alloc (by omega) _) hC

/-- The same, the new block's number spelt otherwise. -/
theorem append_int_at {ops : Array Oper} {rest : List Oper} {o : Oper} {a : Act} {Q : Exit → Act → World → Prop} {w : World} (hgd : o.guard = none) (s x : Operand)
    (ho : o.op = .call { callee := .builtin .append, args := #[s, x], argTypes := #[103, 103] })
    (B : Nat) (v : Value) (l : List Int) (hs : a.eval s = v) (hown : OwnInts w B v l) (y : Int) (g : Nat) (hx : a.eval x = .slice (some ⟨g, 0, none⟩) 1 1) (hg : w.heap.size = g)
    (hl : l.length ≤ 1000000000000) (hB : B ≤ w.heap.size)
    (h : ∀ v' w', OwnInts w' B v' (l ++ [y]) → (w.alloc (.cells #[.int .i64 y] 3)).grownBy w' v.ownBlock → Fresh (w.alloc (.cells #[.int .i64 y] 3)) v v' → (∀ C w0, Below C w0 w → C ≤ B → Below C w0 w') → wpList Tryd.prog ops Q rest (a.put o.dst v') w') :
    wpList Tryd.prog ops Q (o :: rest) a (w.alloc (.cells #[.int .i64 y] 3)) :=
  append_int hgd s x ho B v l hs hown y (by rw [hx, hg]) hl hB h

/-- 'out = append(out, src...)', lists of ints. -/
theorem append_ints {ops : Array Oper} {rest : List Oper} {o : Oper} {a : Act} {Q : Exit → Act → World → Prop} {w : World} (hgd : o.guard = none) (s x : Operand)
    (ho : o.op = .call { callee := .builtin .append, args := #[s, x], argTypes := #[103, 103] })
    (B : Nat) (v : Value) (l : List Int) (hs : a.eval s = v) (hown : OwnInts w B v l) (sv : Value) (l2 : List Int) (hx : a.eval x = sv) (hsrc : IntsIn w sv l2)
    (hl : l.length + l2.length ≤ 1000000000000) (hB : B ≤ w.heap.size)
    (h : ∀ v' w', OwnInts w' B v' (l ++ l2) → w.grownBy w' v.ownBlock → Fresh w v v' → (∀ C w0, Below C w0 w → C ≤ B → Below C w0 w') → wpList Tryd.prog ops Q rest (a.put o.dst v') w') : wpList Tryd.prog ops Q (o :: rest) a w := by
  refine append_gen hgd s x 103 ho Tryd.underlying103 Tryd.infoInt rfl (by decide) B v l.length (intVs l) hs hown sv l2.length (intVs l2) hx hsrc ?_ ?_ ?_ hB ?_
  · intro u hu; simp [intVs] at hu; obtain ⟨_, _, rfl⟩ := hu; rfl
  · unfold maxLen; omega
  · omega
  · intro v' w' h1 h2 h3 h4
    exact h v' w' (by unfold OwnInts intVs at *; simpa using h1) h2 h3 h4

/-- 'make([]int, n)'. -/
theorem make_ints {ops : Array Oper} {rest : List Oper} {o : Oper} {a : Act} {Q : Exit → Act → World → Prop} {w : World} (hgd : o.guard = none) (l c : Operand)
    (ho : o.op = Op.makeSlice 103 l c) (B n : Nat) (hl : a.eval l = .int .i64 (n : Int)) (hc : a.eval c = .int .i64 (n : Int)) (hn : n ≤ 35184372088832) (hB : B ≤ w.heap.size)
    (h : ∀ w', OwnInts w' B (.slice (some ⟨w.heap.size, 0, none⟩) n n) (List.replicate n 0) → w.grownBy w' none → wpList Tryd.prog ops Q rest (a.put o.dst (.slice (some ⟨w.heap.size, 0, none⟩) n n)) w') : wpList Tryd.prog ops Q (o :: rest) a w := by
  obtain ⟨i0, hi0, hz0, hz1, hz2⟩ := info_parts Tryd.infoInt
  refine wpList_make_full w hgd l c 103 ho B 3 i0 (.int .i64 0) 1 Tryd.underlying103 hi0 hz0 hz1 .i64 .i64 n n n hl hc rfl rfl (by rw [hz2]; omega) (by unfold maxLen; omega) hB fun w' h1 h2 => h w' ?_ h2
  unfold OwnInts intVs
  have e : (madeCells (Value.int .i64 0).cells (n * 1)).toList = List.map (Value.int .i64) (List.replicate n 0) := by
    rw [show (Value.int .i64 0).cells = #[.int .i64 0] from rfl, toList_madeCells_one]; simp
  rw [e] at h1
  simpa using h1

/-- The cells of a new list of zeros, behind a name. -/
def zeroInts (n : Nat) : Array Value := (intVs (List.replicate n 0)).toArray
def zeroBools (n : Nat) : Array Value := (boolVs (List.replicate n false)).toArray

theorem make_ints_run (n : Nat) (hn : n ≤ 35184372088832) (w : World) : (Instr.makeSlice 103 (.int .i64 (n : Int)) (.int .i64 (n : Int))).run Tryd.prog w = .ok (.slice (some ⟨w.heap.size, 0, none⟩) n n) (w.alloc (.cells (zeroInts n) 3)) := by
  obtain ⟨i0, hi0, hz0, hz1, hz2⟩ := info_parts Tryd.infoInt
  have e : madeCells (Value.int .i64 0).cells (n * 1) = zeroInts n := by
    apply Array.toList_inj.1
    rw [show (Value.int .i64 0).cells = #[.int .i64 0] from rfl, toList_madeCells_one]; simp [zeroInts, intVs]
  have h := run_make (P := Tryd.prog) w 103 3 i0 (.int .i64 0) Tryd.underlying103 hi0 hz0 .i64 .i64 (n : Int) (n : Int) (by omega) (Int.le_refl _) (by rw [hz2]; omega) (by omega)
  rw [hz1, Int.toNat_natCast, e] at h
  exact h
theorem owns_zeroInts (w : World) {B : Nat} (n : Nat) (hB : B ≤ w.heap.size) (hn : n ≤ 35184372088832) : OwnInts (w.alloc (.cells (zeroInts n) 3)) B (.slice (some ⟨w.heap.size, 0, none⟩) n n) (List.replicate n 0) := by
  have := World.ownsRow_lit (base := B) (e := 3) (size := 1) w (zeroInts n) n hB (by unfold maxLen; omega) (by simp [zeroInts, intVs])
  unfold OwnInts
  simpa [zeroInts, intVs] using this
theorem owns_zeroBools (w : World) {B : Nat} (n : Nat) (hB : B ≤ w.heap.size) (hn : n ≤ 35184372088832) : OwnBools (w.alloc (.cells (zeroBools n) 4)) B (.slice (some ⟨w.heap.size, 0, none⟩) n n) (List.replicate n false) := by
  have := World.ownsRow_lit (base := B) (e := 4) (size := 1) w (zeroBools n) n hB (by unfold maxLen; omega) (by simp [zeroBools, boolVs])
  unfold OwnBools
  simpa [zeroBools, boolVs] using this

theorem OwnBools.cell {w : World} {B g cap n : Nat} {l : List Bool} (h : OwnBools w B (.slice (some ⟨g, 0, none⟩) n cap) l) {k : Nat} (hk : k < l.length) : w.cell? ⟨g, k, none⟩ = some (.bool (l.getD k false)) := by
  have hn : n = l.length := by rcases h.2 with ⟨h, _⟩ | ⟨_, _, _, h, _⟩ <;> cases h; rfl
  subst hn
  rw [World.ownsRow.cellAt h k (by omega)]
  simp [boolVs, List.getD, hk]
theorem OwnBools.free {w : World} {B g cap n : Nat} {l : List Bool} (h : OwnBools w B (.slice (some ⟨g, 0, none⟩) n cap) l) (k : Nat) : w.frozen? ⟨g, k, none⟩ = false := by
  have hn : n = l.length := by rcases h.2 with ⟨h, _⟩ | ⟨_, _, _, h, _⟩ <;> cases h; rfl
  subst hn
  exact World.ownsRow.frozenAt h k
theorem OwnBools.store {w : World} {B g cap n : Nat} {l : List Bool} (h : OwnBools w B (.slice (some ⟨g, 0, none⟩) n cap) l) (k : Nat) (b : Bool) : OwnBools (w.setCell ⟨g, k, none⟩ (.bool b)) B (.slice (some ⟨g, 0, none⟩) n cap) (l.set k b) := by
  have hn : n = l.length := by rcases h.2 with ⟨h, _⟩ | ⟨_, _, _, h, _⟩ <;> cases h; rfl
  subst hn
  have := (World.ownsRow.stored h k (.bool b)).1
  unfold OwnBools boolVs at *
  rw [List.length_set, List.map_set]; exact this
theorem OwnInts.cell {w : World} {B g cap n : Nat} {l : List Int} (h : OwnInts w B (.slice (some ⟨g, 0, none⟩) n cap) l) {k : Nat} (hk : k < l.length) : w.cell? ⟨g, k, none⟩ = some (.int .i64 (l.getD k 0)) := by
  have hn : n = l.length := by rcases h.2 with ⟨h, _⟩ | ⟨_, _, _, h, _⟩ <;> cases h; rfl
  subst hn
  rw [World.ownsRow.cellAt h k (by omega)]
  simp [intVs, List.getD, hk]
theorem OwnInts.free {w : World} {B g cap n : Nat} {l : List Int} (h : OwnInts w B (.slice (some ⟨g, 0, none⟩) n cap) l) (k : Nat) : w.frozen? ⟨g, k, none⟩ = false := by
  have hn : n = l.length := by rcases h.2 with ⟨h, _⟩ | ⟨_, _, _, h, _⟩ <;> cases h; rfl
  subst hn
  exact World.ownsRow.frozenAt h k
theorem OwnInts.store {w : World} {B g cap n : Nat} {l : List Int} (h : OwnInts w B (.slice (some ⟨g, 0, none⟩) n cap) l) (k : Nat) (b : Int) : OwnInts (w.setCell ⟨g, k, none⟩ (.int .i64 b)) B (.slice (some ⟨g, 0, none⟩) n cap) (l.set k b) := by
  have hn : n = l.length := by rcases h.2 with ⟨h, _⟩ | ⟨_, _, _, h, _⟩ <;> cases h; rfl
  subst hn
  have := (World.ownsRow.stored h k (.int .i64 b)).1
  unfold OwnInts intVs at *
  rw [List.length_set, List.map_set]; exact this
theorem OwnInts.pop {w : World} {B g cap n : Nat} {l : List Int} {x : Int} (h : OwnInts w B (.slice (some ⟨g, 0, none⟩) (n + 1) cap) (l ++ [x])) (hn : n = l.length) : OwnInts w B (.slice (some ⟨g, 0, none⟩) n cap) l := by
  subst hn
  unfold OwnInts intVs at *
  simp only [List.length_append, List.length_singleton, List.map_append, List.map_cons, List.map_nil] at h
  exact ownsRow_pop (by simp) h
theorem OwnBools.form {w : World} {B : Nat} {v : Value} {l : List Bool} (h : OwnBools w B v l) : (v = .slice none 0 0 ∧ l = []) ∨ ∃ g cap, v = .slice (some ⟨g, 0, none⟩) l.length cap ∧ B ≤ g ∧ g < w.heap.size ∧ l.length ≤ cap := by
  rcases h.2 with ⟨h1, h2⟩ | ⟨g, cap, cur, h1, h2, h3, h4, _⟩
  · exact Or.inl ⟨h1, List.eq_nil_of_length_eq_zero h2⟩
  · exact Or.inr ⟨g, cap, h1, h2, (Array.getElem?_eq_some_iff.1 h3).1, h4⟩
theorem OwnInts.form {w : World} {B : Nat} {v : Value} {l : List Int} (h : OwnInts w B v l) : (v = .slice none 0 0 ∧ l = []) ∨ ∃ g cap, v = .slice (some ⟨g, 0, none⟩) l.length cap ∧ B ≤ g ∧ g < w.heap.size ∧ l.length ≤ cap := by
  rcases h.2 with ⟨h1, h2⟩ | ⟨g, cap, cur, h1, h2, h3, h4, _⟩
  · exact Or.inl ⟨h1, List.eq_nil_of_length_eq_zero h2⟩
  · exact Or.inr ⟨g, cap, h1, h2, (Array.getElem?_eq_some_iff.1 h3).1, h4⟩

end Go.Proofs.YtgobcldecokppaaDoor
