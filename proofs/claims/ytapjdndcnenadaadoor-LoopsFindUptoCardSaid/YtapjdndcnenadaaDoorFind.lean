/- loops.Find: the loops of a function, or what is wrong first. -/
import Derived.Test.YtapjdndcnenadaaDoorFindPlain
import Derived.Test.YtapjdndcnenadaaDoorRegion
import Derived.Deep.RegionHeld3
import Derived.IntWalk
namespace Go.Proofs.YtapjdndcnenadaaDoor
open Go.RowKit Go.Maps

def RetFind (code : List Ins) (w : World) (e : Ending) (w' : World) : Prop :=
  ∃ v l E at', e = .returned (.tuple #[v, .int .i64 E, .int .i64 at']) ∧ OwnLoops w' w.heap.size w.heap.size v l ∧ FindIs code l E at' ∧ Below w.heap.size w w'

/-- What stands once the graph is made: the function's box, the graph's, the graph. -/
structure FG (w W : World) (b5 b0 Bg Ng : Nat) (V : Nat → Int → Value) (s : ByteArray) (vp : Value) (regs words : Int) (vc : Value) (code : List Ins) : Prop where
  fn : FnAt W w.heap.size s vp regs words vc
  box : BoxG W b5 b0
  gg : GG W b0 Bg Ng V (gf code (edgesL code))
  code : CodeIn W vc code
  writes : WritesIn W
  below : Below w.heap.size w W
  lt : w.heap.size < b5 ∧ b5 < W.heap.size
  low : w.heap.size ≤ b0
  num : Ng ≤ 10000
theorem FG.later {w W W' : World} {b5 b0 Bg Ng : Nat} {V : Nat → Int → Value} {s : ByteArray} {vp : Value} {regs words : Int} {vc : Value} {code : List Ins} (h : FG w W b5 b0 Bg Ng V s vp regs words vc code) (hb : Below W.heap.size W W') : FG w W' b5 b0 Bg Ng V s vp regs words vc code :=
  have h1 := h.lt.1
  have h2 := h.lt.2
  ⟨h.fn.later hb (by omega), h.box.later hb h.lt.2, h.gg.later hb, SliceIn.later h.code hb, h.writes.next hb, h.below.trans (hb.mono (by omega)), ⟨h.lt.1, Nat.lt_of_lt_of_le h.lt.2 hb.size⟩, h.low, h.num⟩
theorem FG.graph {w W : World} {b5 b0 Bg Ng : Nat} {V : Nat → Int → Value} {s : ByteArray} {vp : Value} {regs words : Int} {vc : Value} {code : List Ins} (h : FG w W b5 b0 Bg Ng V s vp regs words vc code) : GraphIn W b0 code := ⟨Bg, Ng, V, h.gg, h.num⟩
theorem Gone.nextI {V : Int → Value} {left : Lit → Bool} {ks : List Int} {x : Int} (h : Gone V left ks) (hl : left (.int .i64 x) = true) : Gone V (fun z => left z && !z.sameKey (.int .i64 x)) (insL ks x) := by
  refine ⟨insL_nodup h.nodup x, fun y hy => ?_, fun y hy hf => ?_⟩
  · rcases (insL_mem _ _ _).1 hy with rfl | hy
    · exact strike_false_iff.2 (.inr rfl)
    · exact strike_false_iff.2 (.inl (h.sub y hy))
  · rcases strike_false_iff.1 hf with hf | hf
    · exact (insL_mem _ _ _).2 (.inr (h.all y hy hf))
    · exact (insL_mem _ _ _).2 (.inl hf)
theorem Gone.keys {W : World} {b0 B N : Nat} {V : Nat → Int → Value} {f : Nat → Int → List Int} (hg : GG W b0 B N V f) {i : Nat} (hi : i < 3) {left : Lit → Bool} {ks : List Int} (h : Gone (V i) left ks) (hl : ∀ kl, left kl = false) (hks : ∀ x ∈ ks, PosV (V i x)) (x : Int) : x ∈ ks ↔ f i x ≠ [] := by
  constructor
  · intro hx; exact (hks x hx).list (hg.each i x hi)
  · intro hx
    refine h.all x (fun e => hx ?_) (hl _)
    have := hg.each i x hi
    rw [e] at this
    exact owns_nil this

/-- The loops of the first k heads. -/
structure FL (w w9 W : World) (Vb : Int → Value) (code : List Ins) (k : Nat) (q : Value) (Ls : List LP) : Prop where
  own : OwnLoops W w.heap.size w9.heap.size q Ls
  d : Ls.map LP.d = ((headsL code).take k).map (loopD code)
  par : ∀ x ∈ Ls, x.parent = -1
  vb : ∀ x ∈ Ls, x.vb = Vb x.head
  vm : ∀ x ∈ Ls, ∀ b, x.vm.ownBlock = some b → w9.heap.size ≤ b
  ok : ∀ (j : Nat) h, j < k → (headsL code)[j]? = some h → (countsOf code h (memL code h) (toI (backsE code) h)).1 = 0
  below : Below w9.heap.size w9 W
theorem FL.start (w w9 : World) (Vb : Int → Value) (code : List Ins) : FL w w9 w9 Vb code 0 nilV [] :=
  ⟨OwnLoops.nil _ _ _, by simp, fun x hx => absurd hx (by simp), fun x hx => absurd hx (by simp), fun x hx => absurd hx (by simp), fun j h hj => by omega, Below.refl _ _⟩
theorem FL.later {w w9 W W' : World} {Vb : Int → Value} {code : List Ins} {k : Nat} {q : Value} {Ls : List LP} (h : FL w w9 W Vb code k q Ls) (hb : Below W.heap.size W W') : FL w w9 W' Vb code k q Ls :=
  ⟨h.own.later hb, h.d, h.par, h.vb, h.vm, h.ok, h.below.trans (hb.mono h.below.size)⟩
theorem Tryd.infoLoop : (Tryd.prog.info? 40).map (fun i => (i.zero, i.size, i.bytes)) = some (some (.agg #[.int .i64 0, .int .i64 0, .slice none 0 0, .slice none 0 0]), 4, 64) := by kernel_rfl
theorem append_loop {w : World} {ops : Array Oper} {rest : List Oper} {o : Oper} {a : Act} {Q : Exit → Act → World → Prop} (hgd : o.guard = none) (s x : Operand)
    (ho : o.op = .call { callee := .builtin .append, args := #[s, x], argTypes := #[27, 27] })
    (B : Nat) (v : Value) (l : List LP) (hs : a.eval s = v) (hown : w.ownsRow B 40 4 v l.length (loopVs l)) (h0 p0 : Int) (am : Option Addr) (lm cm : Nat) (ab : Option Addr) (lb cb : Nat) (hx : a.eval x = .slice (some ⟨w.heap.size, 0, none⟩) 1 1)
    (hl : l.length ≤ 1000000) (hB : B ≤ w.heap.size)
    (h : ∀ v' w', w'.ownsRow B 40 4 v' (l.length + 1) (loopVs l ++ [.int .i64 h0, .int .i64 p0, .slice am lm cm, .slice ab lb cb]) → (w.alloc (.cells #[.int .i64 h0, .int .i64 p0, .slice am lm cm, .slice ab lb cb] 40)).grownBy w' v.ownBlock →
      Fresh (w.alloc (.cells #[.int .i64 h0, .int .i64 p0, .slice am lm cm, .slice ab lb cb] 40)) v v' → (∀ C w0, Below C w0 w → C ≤ B → Below C w0 w') → wpList Tryd.prog ops Q rest (a.put o.dst v') w') :
    wpList Tryd.prog ops Q (o :: rest) a (w.alloc (.cells #[.int .i64 h0, .int .i64 p0, .slice am lm cm, .slice ab lb cb] 40)) := by
  refine append_gen hgd s x 27 ho Tryd.underlying27 Tryd.infoLoop rfl (by decide) B v l.length (loopVs l) hs (World.ownsRow.alloc hown _) _ 1 [.int .i64 h0, .int .i64 p0, .slice am lm cm, .slice ab lb cb] hx (sliceIn_new w [.int .i64 h0, .int .i64 p0, .slice am lm cm, .slice ab lb cb] 1 4 40 rfl (by decide)) ?_ ?_ ?_ ?_ ?_
  · intro u hu; simp at hu; rcases hu with rfl | rfl | rfl | rfl <;> rfl
  · unfold maxLen; omega
  · omega
  · simp; omega
  · intro v' w' h1 h2 h3 h4
    exact h v' w' h1 h2 h3 fun C w0 hb hC => h4 C w0 (hb.alloc (by omega) _) hC
theorem head_mem {code : List Ins} {k : Nat} {l : List LP} (hd : l.map LP.d = ((headsL code).take k).map (loopD code)) {x : LP} (hx : x ∈ l) : x.head ∈ (headsL code).take k ∧ x.d = loopD code x.head := by
  have h1 : x.d ∈ l.map LP.d := List.mem_map_of_mem hx
  rw [hd] at h1
  obtain ⟨h', hh', e⟩ := List.mem_map.1 h1
  have e1 : x.head = h' := by have := congrArg Prod.fst e; simpa [LP.d, loopD] using this.symm
  rw [e1]
  exact ⟨hh', e.symm⟩
theorem FL.snoc {w w9 wr w1 w2 : World} {b0 Bg Ng k : Nat} {V : Nat → Int → Value} {code : List Ins} {q q' : Value} {Ls : List LP} {h : Int} {vm vb : Value} (hL : FL w w9 wr (V 2) code k q Ls) (hgg : GG w9 b0 Bg Ng V (gf code (edgesL code))) (hh : (headsL code)[k]? = some h) (hvb : vb = V 2 h)
    (hvm : OwnInts w1 wr.heap.size vm (memL code h)) (hvbo : OwnInts w1 w.heap.size vb (toI (backsE code) h)) (hb1 : Below wr.heap.size wr w1) (hw : w.heap.size ≤ w9.heap.size)
    (hok : (countsOf code h (memL code h) (toI (backsE code) h)).1 = 0) (hrow : w2.ownsRow w9.heap.size 40 4 q' (Ls.length + 1) (loopVs Ls ++ [.int .i64 h, .int .i64 (-1), vm, vb]))
    (hg : w1.grownBy w2 q.ownBlock) (hf : Fresh w1 q q') (hb2 : Below w9.heap.size w9 w2) : FL w w9 w2 (V 2) code (k + 1) q' (Ls ++ [⟨h, -1, vm, vb, memL code h, toI (backsE code) h⟩]) := by
  have hs9 : w9.heap.size ≤ wr.heap.size := hL.below.size
  have hmlo : ∀ b, vm.ownBlock = some b → wr.heap.size ≤ b := fun b hb => (World.ownsRow.lt hvm b hb).1
  have hblo : ∀ b, vb.ownBlock = some b → b < w9.heap.size := fun b hb => by rw [hvb] at hb; exact (hgg.row (i := 2) (by omega) hb).2
  refine ⟨?_, ?_, ?_, ?_, ?_, ?_, hb2⟩
  · refine (hL.own.later hb1).snoc (x := ⟨h, -1, vm, vb, memL code h, toI (backsE code) h⟩) (ownsRow_mono hvm (by omega)) hvbo (fun b hb e => ?_) (fun b hb hm => ?_) (fun b hb hm => ?_) hrow hg hf
    · have := hmlo b hb; have := hblo b e; omega
    · have := hmlo b hb; have := blocks_lt hL.own hm; omega
    · have hlt := hblo b hb
      unfold blocksOf at hm
      rcases List.mem_append.1 hm with hm | hm
      · have := (World.ownsRow.lt hL.own.row b (by simpa using hm)).1; omega
      · obtain ⟨y, hy, hm⟩ := List.mem_flatMap.1 hm
        rcases List.mem_append.1 hm with hm | hm
        · have := hL.vm y hy b (by simpa using hm); omega
        · have hyv : y.vb.ownBlock = some b := by simpa using hm
          rw [hL.vb y hy] at hyv
          simp only at hb
          rw [hvb] at hb
          refine hgg.apart 2 2 y.head h (by omega) (by omega) (.inr (fun e => ?_)) b hyv hb
          have hym := (head_mem hL.d hy).1
          rw [e] at hym
          obtain ⟨j, hj, ej⟩ := List.mem_iff_getElem.1 hym
          rw [List.length_take] at hj
          rw [List.getElem_take] at ej
          have hs := List.pairwise_iff_getElem.1 (headsL_sorted code) j k (by omega) (List.getElem?_eq_some_iff.1 hh).1 (by omega)
          have ek := (List.getElem?_eq_some_iff.1 hh).2
          omega
  · rw [List.map_append, hL.d, List.take_add_one, hh, List.map_append]; rfl
  · intro x hx
    rcases List.mem_append.1 hx with hx | hx
    · exact hL.par x hx
    · rw [List.mem_singleton.1 hx]
  · intro x hx
    rcases List.mem_append.1 hx with hx | hx
    · exact hL.vb x hx
    · rw [List.mem_singleton.1 hx]; exact hvb
  · intro x hx b hb
    rcases List.mem_append.1 hx with hx | hx
    · exact hL.vm x hx b hb
    · rw [List.mem_singleton.1 hx] at hb; have := hmlo b hb; omega
  · intro j h' hj hh'
    by_cases e : j = k
    · subst e; rw [hh] at hh'; cases hh'; exact hok
    · exact hL.ok j h' (by omega) hh'
theorem OwnLoops.one {W : World} {B B1 g n cap k : Nat} {l : List LP} {x : LP} (h : OwnLoops W B B1 (.slice (some ⟨g, 0, none⟩) n cap) l) (hk : l[k]? = some x) : LoopsIn W (.slice (some ⟨g, k * 4, none⟩) 1 (cap - k)) [x] := by
  have hin := h.toIn
  have hkl := (List.getElem?_eq_some_iff.1 hk).1
  obtain ⟨hl, a, cap', hv, h2, h3, h4, h5⟩ := hin.row
  cases hv
  obtain ⟨b, off, e, hb, hc⟩ := h5 (by omega)
  cases e
  refine ⟨⟨by simp [loopVs, LP.cells], _, _, rfl, by simp; omega, by omega, (by intro h; cases h), fun _ => ⟨_, _, rfl, hb, fun j u hu => ?_⟩⟩, fun y hy => ?_⟩
  · have hj : j < 4 := by
      have := (List.getElem?_eq_some_iff.1 hu).1
      simpa [loopVs, LP.cells] using this
    have := hc (k * 4 + j) u (by
      rw [loopVs_at l k j hj, hk]
      have h0 := loopVs_at [x] 0 j hj
      rw [Nat.zero_mul, Nat.zero_add] at h0
      rw [h0] at hu
      simpa using hu)
    simpa using this
  · rw [List.mem_singleton.1 hy]
    exact hin.each x (List.mem_of_getElem? hk)
/-- The loops while their places are told. -/
structure PL (w w9 W : World) (ds : List LD) (q : Value) (ps : List Int) (Ls : List LP) : Prop where
  own : OwnLoops W w.heap.size w9.heap.size q Ls
  d : Ls.map LP.d = ds
  par : Ls.map LP.parent = ps
  below : Below w9.heap.size w9 W
theorem PL.later {w w9 W W' : World} {ds : List LD} {q : Value} {ps : List Int} {Ls : List LP} (h : PL w w9 W ds q ps Ls) (hb : Below W.heap.size W W') : PL w w9 W' ds q ps Ls := ⟨h.own.later hb, h.d, h.par, h.below.trans (hb.mono h.below.size)⟩
theorem PL.len {w w9 W : World} {ds : List LD} {q : Value} {ps : List Int} {Ls : List LP} (h : PL w w9 W ds q ps Ls) : Ls.length = ds.length := by rw [← h.d, List.length_map]
theorem PL.nth {w w9 W : World} {ds : List LD} {q : Value} {ps : List Int} {Ls : List LP} (h : PL w w9 W ds q ps Ls) {i : Nat} {x : LP} (hx : Ls[i]? = some x) : nthD ds i = x.d ∧ ps.getD i 0 = x.parent := by
  constructor
  · unfold nthD; rw [← h.d, List.getD_eq_getElem?_getD, List.getElem?_map, hx]; rfl
  · rw [← h.par, List.getD_eq_getElem?_getD, List.getElem?_map, hx]; rfl
theorem PL.put {w w9 W : World} {ds : List LD} {g n cap : Nat} {ps : List Int} {Ls : List LP} (h : PL w w9 W ds (.slice (some ⟨g, 0, none⟩) n cap) ps Ls) {i : Nat} (hi : i < Ls.length) (p : Int) (hg : w9.heap.size ≤ g) :
    PL w w9 (W.setCell ⟨g, i * 4 + 1, none⟩ (.int .i64 p)) ds (.slice (some ⟨g, 0, none⟩) n cap) (ps.set i p) (setPar Ls i p) :=
  ⟨h.own.setPar hi p, by rw [setPar_d]; exact h.d, by rw [setPar_parent, h.par], h.below.setCell hg _⟩
/-- What the test of a round says. -/
def condP (ds : List LD) (ps : List Int) (i k : Nat) : Bool := withinD ds i k && (decide (ps.getD i 0 < 0) || decide ((nthD ds k).2.1.length < (nthD ds (ps.getD i 0).toNat).2.1.length))
theorem stepP_cond (ds : List LD) (ps : List Int) (i k : Nat) : stepP ds ps i k = if condP ds ps i k then ps.set i (k : Int) else ps := rfl
theorem depthOne (x : LP) (a : Int) : depthOf [x] a = if x.mem.contains a then 1 else 0 := by unfold depthOf; simp [List.countP_cons]
/-- A loop's cells, fresh. -/
structure CZ (W0 : World) (c : Nat) (W : World) : Prop where
  lo : W0.heap.size ≤ c
  lt : c < W.heap.size
  z0 : W.cell? ⟨c, 0, none⟩ = some (.int .i64 0)
  z1 : W.cell? ⟨c, 1, none⟩ = some (.int .i64 0)
  z2 : W.cell? ⟨c, 2, none⟩ = some (.slice none 0 0)
  z3 : W.cell? ⟨c, 3, none⟩ = some (.slice none 0 0)
  f : ∀ j, W.frozen? ⟨c, j, none⟩ = false
theorem CZ.later {W0 W W' : World} {c : Nat} (h : CZ W0 c W) (hb : Below W.heap.size W W') : CZ W0 c W' :=
  ⟨h.lo, Nat.lt_of_lt_of_le h.lt hb.size, (hb.cell h.lt).trans h.z0, (hb.cell h.lt).trans h.z1, (hb.cell h.lt).trans h.z2, (hb.cell h.lt).trans h.z3, fun j => (hb.frozen (p := ⟨c, j, none⟩) h.lt).trans (h.f j)⟩
theorem CZ.new {W0 W : World} (h : W0.heap.size ≤ W.heap.size) : CZ W0 W.heap.size (W.alloc (.cells #[.int .i64 0, .int .i64 0, .slice none 0 0, .slice none 0 0] 40)) :=
  ⟨h, by simp, by rw [World.cell?_alloc_at _ _ _ _ rfl]; rfl, by rw [World.cell?_alloc_at _ _ _ _ rfl]; rfl, by rw [World.cell?_alloc_at _ _ _ _ rfl]; rfl, by rw [World.cell?_alloc_at _ _ _ _ rfl]; rfl, fun j => by rw [World.frozen?_alloc_at _ _ _ _ rfl]⟩
/-- The loop that has been told, in its cells. -/
theorem owns_slice {w : World} {B : Nat} {v : Value} {l : List Int} (h : OwnInts w B v l) : ∃ a n c, v = .slice a n c := by
  rcases h.form with ⟨h, _⟩ | ⟨g, c, h, _⟩
  · exact ⟨_, _, _, h⟩
  · exact ⟨_, _, _, h⟩
theorem set_is {code : List Ins} {h : Int} {S : List Int} (hh : InFn code h) (hn : S.Nodup) (hS : ∀ x, x ∈ S ↔ MemP code h x) : S.length ≤ 1000000 ∧ sortL S = memL code h := by
  have e := memL_eq hh hn hS
  have h1 := memL_len code h
  have h2 := sortL_length S
  rw [e] at h2
  have := hh.has
  exact ⟨by omega, e⟩
def LC (W0 : World) (h : Int) (vb : Value) (mem : List Int) (p : Value) (W : World) : Prop :=
  ∃ c vm, p = .pointer (some ⟨c, 0, none⟩) ∧ c < W.heap.size ∧ W.cell? ⟨c, 0, none⟩ = some (.int .i64 h) ∧ W.cell? ⟨c, 1, none⟩ = some (.int .i64 (-1)) ∧ W.cell? ⟨c, 2, none⟩ = some vm ∧ W.cell? ⟨c, 3, none⟩ = some vb ∧ OwnInts W W0.heap.size vm mem ∧ Below W0.heap.size W0 W
theorem LC.mk' {wr W0 W : World} {c : Nat} {h : Int} {vb vm : Value} {mem : List Int} (h0 : Below wr.heap.size wr W0 ∧ W0.heap.size = wr.heap.size) (hz : CZ W0 c W) (hv : OwnInts W W0.heap.size vm mem) (hb : Below W0.heap.size W0 W) (hne : vm.ownBlock ≠ some c) :
    LC wr h vb mem (.pointer (some ⟨c, 0, none⟩)) ((((W.setCell ⟨c, 0, none⟩ (.int .i64 h)).setCell ⟨c, 1, none⟩ (.int .i64 (-1))).setCell ⟨c, 2, none⟩ vm).setCell ⟨c, 3, none⟩ vb) := by
  have hlo := hz.lo
  have hlt := hz.lt
  have z0 := hz.z0; have z1 := hz.z1; have z2 := hz.z2; have z3 := hz.z3
  refine ⟨c, vm, rfl, by simp [hlt], ?_, ?_, ?_, ?_, ?_, ?_⟩
  · rw [World.cell?_setCell_other _ _ _ _ (by simp), World.cell?_setCell_other _ _ _ _ (by simp), World.cell?_setCell_other _ _ _ _ (by simp)]
    exact World.cell?_setCell_same' _ _ _ (by rw [z0]; rfl)
  · rw [World.cell?_setCell_other _ _ _ _ (by simp), World.cell?_setCell_other _ _ _ _ (by simp)]
    exact World.cell?_setCell_same' _ _ _ (by rw [World.cell?_setCell_other _ _ _ _ (by simp), z1]; rfl)
  · rw [World.cell?_setCell_other _ _ _ _ (by simp)]
    exact World.cell?_setCell_same' _ _ _ (by rw [World.cell?_setCell_other _ _ _ _ (by simp), World.cell?_setCell_other _ _ _ _ (by simp), z2]; rfl)
  · exact World.cell?_setCell_same' _ _ _ (by rw [World.cell?_setCell_other _ _ _ _ (by simp), World.cell?_setCell_other _ _ _ _ (by simp), World.cell?_setCell_other _ _ _ _ (by simp), z3]; rfl)
  · rw [← h0.2]
    exact ownsRow_setCell_other (ownsRow_setCell_other (ownsRow_setCell_other (ownsRow_setCell_other hv hne _) hne _) hne _) hne _
  · rw [h0.2] at hb hlo
    exact h0.1.trans ((((hb.setCell (p := ⟨c, 0, none⟩) hlo _).setCell (p := ⟨c, 1, none⟩) hlo _).setCell (p := ⟨c, 2, none⟩) hlo _).setCell (p := ⟨c, 3, none⟩) hlo _)

set_option maxRecDepth 100000 in
set_option maxHeartbeats 8000000 in
theorem find_any (s : ByteArray) (vp : Value) (regs words : Int) (vc : Value) (code : List Ins) (w : World) (hlen : code.length * 40 ≤ 140737488351232) (hc : CodeIn w vc code) (hw : WritesIn w) :
    Calls Tryd.prog 8 #[fnV s vp regs words vc] w (RetFind code w) := by
  have hcv := hc
  obtain ⟨-, ac, cc, rfl, -⟩ := hcv
  have Hlen := Lib.hid hlen
  obtain ⟨n, hn⟩ : ∃ n, n = code.length := ⟨_, rfl⟩
  rw [← hn] at hc ⊢
  have hn9 : n ≤ 1000000000000000 := by omega
  have Hn := Lib.hid hn
  have Hc := Lib.hid hc
  have Hw := Lib.hid hw
  obtain ⟨W1, hW1⟩ : ∃ W1, W1 = w.alloc (.cells #[.string s, vp, .int .i64 regs, .int .i64 words, .slice ac n cc] 25) := ⟨_, rfl⟩
  have hb1 : Below w.heap.size w W1 := by rw [hW1]; exact (Below.refl _ _).alloc (Nat.le_refl _) _
  have hf1 : FnAt W1 w.heap.size s vp regs words (.slice ac n cc) := by rw [hW1]; exact FnAt.box w s vp regs words _ _
  have hs1 : W1.heap.size = w.heap.size + 1 := by rw [hW1]; simp
  have HW1 := Lib.hid hW1
  have H1 := Lib.hid (And.intro hb1 (And.intro hf1 hs1))
  clear hc hn hlen hw hW1 hb1 hf1 hs1
  by_cases hbig : 1024 < n
  · obtain ⟨f0, f1, f2, f3, f4⟩ := H1.out.2.1
    have hlt1 : w.heap.size < W1.heap.size := by have := H1.out.2.2; omega
    have Hres : Hid (FindIs code [] 97 1024) := .inl ⟨by rw [← Hn.out]; exact hbig, rfl, rfl, rfl⟩
    go_enter Tryd.func8, Tryd.ntmps8
    go_wp2_with (rw [← HW1.out])
    go_ret3
    exact ⟨_, [], 97, 1024, rfl, OwnLoops.nil _ _ _, Hres.out, H1.out.1⟩
  · obtain ⟨f0, f1, f2, f3, f4⟩ := H1.out.2.1
    have hlt1 : w.heap.size < W1.heap.size := by have := H1.out.2.2; omega
    go_enter Tryd.func8, Tryd.ntmps8
    go_wp2_with (rw [← HW1.out])
    refine (graph_any _ _ _ _ _ code _ Hlen.out (SliceIn.later Hc.out H1.out.1)).mono ?_
    rintro e w2 ⟨b0, rfl, hG, hlow, hb2⟩
    unfold graphV
    obtain ⟨b5, hb5⟩ : ∃ b5, b5 = w2.heap.size := ⟨_, rfl⟩
    obtain ⟨W5, hW5⟩ : ∃ W5, W5 = w2.alloc (.cells #[.map (some b0), .map (some (b0 + 1)), .map (some (b0 + 2))] 59) := ⟨_, rfl⟩
    have hb25 : Below w2.heap.size w2 W5 := by rw [hW5]; exact (Below.refl _ _).alloc (Nat.le_refl _) _
    have hbox : BoxG W5 b5 b0 := by rw [hW5, hb5]; exact BoxG.box w2 b0 _
    have hs5 : W5.heap.size = b5 + 1 := by rw [hW5, World.size_alloc, hb5]
    obtain ⟨Bg, Ng, V, hgg, hNg⟩ := hG
    have hs2 := hb2.size
    have hF5 : FG w W5 b5 b0 Bg Ng V s vp regs words (.slice ac n cc) code := by
      have h15 : Below W1.heap.size W1 W5 := hb2.trans (hb25.mono hs2)
      have h05 : Below w.heap.size w W5 := H1.out.1.trans (h15.mono (by omega))
      exact ⟨H1.out.2.1.later h15 hlt1, hbox, hgg.later hb25, SliceIn.later Hc.out h05, Hw.out.next h05, h05, ⟨by omega, by omega⟩, by omega, hNg⟩
    have HF5 := Lib.hid hF5
    have HW5 := Lib.hid hW5
    have Hb5 := Lib.hid hb5
    clear hlow hb2 hb5 hW5 hb25 hbox hs5 hgg hNg hs2 hF5 f0 f1 f2 f3 f4 hlt1
    obtain ⟨f0, f1, f2, f3, f4⟩ := HF5.out.fn
    obtain ⟨c0, c1, c2⟩ := HF5.out.box
    have hlt1 : w.heap.size < W5.heap.size := by have := HF5.out.lt; omega
    have hlt5 : b5 < W5.heap.size := HF5.out.lt.2
    go_wp2_with (rw [← HW5.out, ← Hb5.out])
    refine (round_any b0 _ _ _ _ _ code _ HF5.out.graph HF5.out.code (by rw [← Hn.out]; omega)).mono ?_
    rintro e w6 ⟨at', is, rfl, hrd, hb6⟩
    cases is with
    | true =>
      have Hres : Hid (FindIs code [] 70 at') := .inr (.inl ⟨by rw [← Hn.out]; omega, hrd, rfl, rfl⟩)
      have Hb6 : Hid (Below w.heap.size w w6) := HF5.out.below.trans (hb6.mono (by omega))
      clear hrd hb6
      go_wp2_with fail
      go_ret3
      exact ⟨_, [], 70, at', rfl, OwnLoops.nil _ _ _, Hres.out, Hb6.out⟩
    | false =>
      have hno : ∀ v, ¬ Way (aheadE code) v v := by
        rcases hrd with ⟨h, _⟩ | ⟨_, _, h⟩
        · cases h
        · exact h
      have hF6 := HF5.out.later hb6
      have Hno := Lib.hid hno
      have HF6 := Lib.hid hF6
      clear hrd hb6 hno hF6 f0 f1 f2 f3 f4 c0 c1 c2 hlt1 hlt5
      have hlt5 : b5 < w6.heap.size := HF6.out.lt.2
      have c0' := HF6.out.box
      obtain ⟨k0, k1, k2⟩ := c0'
      have hmm := @run_makeMap Tryd.prog
      obtain ⟨b8, hb8⟩ : ∃ b8, b8 = w6.heap.size := ⟨_, rfl⟩
      obtain ⟨W7, hW7⟩ : ∃ W7, W7 = w6.alloc (.map #[] 0) := ⟨_, rfl⟩
      have hset : SetAt W7 b8 [] := by rw [hW7, hb8]; exact SetAt.made w6
      have hb67 : Below w6.heap.size w6 W7 := by rw [hW7]; exact (Below.refl _ _).alloc (Nat.le_refl _) _
      have hF7 := HF6.out.later hb67
      have hs7 : W7.heap.size = b8 + 1 := by rw [hW7, World.size_alloc, hb8]
      have hm7 := hF7.gg.map 2 (by omega)
      obtain ⟨c0, c1, c2⟩ := hF7.box
      have hlt7 : b5 < W7.heap.size := hF7.lt.2
      have H7 := Lib.hid (And.intro hF7 (And.intro hset (And.intro hb67 (And.intro hs7 hm7))))
      have HW7 := Lib.hid hW7
      have Hb8 := Lib.hid hb8
      clear hb8 hW7 hset hb67 hF7 hs7 hm7
      go_wp2_with (first | rw [← HW7.out, ← Hb8.out] | (at_range; refine gm_range rfl _ rfl (b0 + 2) Ng (V 2) rfl H7.out.2.2.2.2 ?_; intro w8 left cnt hrg hleft hg8 hs8))
      go_frame
      obtain ⟨r, hr⟩ : ∃ r, r = W7.heap.size := ⟨_, rfl⟩
      rw [← hr] at hrg hs8 ⊢
      have hr3 : r ≤ b8 + 1 := by rw [hr, H7.out.2.2.2.1]; exact Nat.le_refl _
      have hr4 : b8 + 1 ≤ r := by rw [hr, H7.out.2.2.2.1]; exact Nat.le_refl _
      have hb0r : b0 + 3 ≤ b8 := by
        have h1 := (HF6.out.gg.map 2 (by omega)).lt
        rw [Hb8.out]; omega
      have H8 := Lib.hid (And.intro hrg (And.intro hleft (And.intro hg8 (And.intro hs8 hr))))
      clear hrg hleft hg8 hs8 hr hmm k0 k1 k2 c0 c1 c2 hlt7 hlt5
      go_loopw [] (fun wi => ∃ (left : Lit → Bool) (cnt : Nat) (S : List Int), GRange wi (b0 + 2) r Ng (V 2) left cnt ∧ SetAt wi b8 S ∧ Gone (V 2) left S ∧ (∀ x ∈ S, PosV (V 2 x)) ∧ Keep r b8 W7 wi ∧ r + 1 ≤ wi.heap.size) (fun wi => wi.rangeLeft (b0 + 2) r)
      case atStart =>
        obtain ⟨hrg, hleft, hg8, hs8, hr⟩ := H8.out
        exact ⟨left, cnt, [], hrg, H7.out.2.1.kept hg8 (by simp), Gone.start hleft, fun x hx => absurd hx (by simp), (Keep.refl _ _ _).grown hg8 (by omega) (by intro k e; cases e), by omega⟩
      case round =>
        obtain ⟨left, cnt, S, hrg, hS, hgo, hpos, hkp, hsz⟩ := hrel
        have hbw6 : Below w6.heap.size w6 wr := H7.out.2.2.1.trans (by rw [← Hb8.out]; exact hkp.below (by omega) (Nat.le_refl _))
        have hFr := HF6.out.later hbw6
        have hSr : ∀ x ∈ S, InFn code x := fun x hx => by
          have h1 := (hpos x hx).list (hFr.gg.each 2 x (by omega))
          rw [gf_at2] at h1
          exact headsL_in (headsL_mem.2 h1)
        have hSl : S.length ≤ 1024 := set_small hS.nodup (fun x hx => by have h1 := hSr x hx; have := h1.lo; have := h1.hi; have := h1.has; omega)
        have Hrg := Lib.hid hrg
        have Hi := Lib.hid (And.intro hS (And.intro hgo (And.intro hpos (And.intro hkp (And.intro hFr hSr)))))
        have Hbw6 := Lib.hid hbw6
        clear hrg hS hgo hpos hkp hFr hSr hbw6
        go_wp2_with (at_next; refine gm_next rfl _ rfl (b0 + 2) r Ng (V 2) left cnt rfl Hrg.out ?_ ?_)
        · intro hl0
          have hheads : sortL S = headsL code := headsL_eq Hi.out.1.nodup (fun x => by
            have := Gone.keys Hi.out.2.2.2.2.1.gg (i := 2) (by omega) Hi.out.2.1 hl0 Hi.out.2.2.1 x
            rw [gf_at2] at this; exact this)
          have Hheads := Lib.hid hheads
          clear hl0 hheads
          go_wp2_with fail
          refine (sorted_any b8 S _ Hi.out.1 (by omega)).mono ?_
          rintro e w9 ⟨v9, rfl, hv9, hb9⟩
          rw [Hheads.out] at hv9
          have hF9 := Hi.out.2.2.2.2.1.later hb9
          have hnh := headsL_len code
          obtain ⟨nh, hnhd⟩ : ∃ nh, nh = (headsL code).length := ⟨_, rfl⟩
          obtain ⟨a9, c9, rfl, ha9⟩ : ∃ a9 c9, v9 = .slice a9 nh c9 ∧ (0 < nh → ∃ g, a9 = some ⟨g, 0, none⟩ ∧ wr.heap.size ≤ g ∧ g < w9.heap.size) := by
            rcases hv9.form with ⟨h, h2⟩ | ⟨g, c, h, h3, h4, _⟩
            · exact ⟨none, 0, by rw [h, hnhd, h2]; rfl, fun h => by rw [hnhd, h2] at h; simp at h⟩
            · exact ⟨_, c, by rw [h, hnhd], fun _ => ⟨g, rfl, h3, h4⟩⟩
          rw [← hnhd] at hnh
          have hnh9 : nh ≤ 1024 := by rw [← Hn.out] at hnh; omega
          have h69 : w6.heap.size ≤ w9.heap.size := by have := Hbw6.out.size; have := hb9.size; omega
          have H9 := Lib.hid (And.intro hF9 (And.intro hv9 hnhd))
          clear hF9 hv9 hnhd hb9 hnh Hi Hrg H8 H7 hSl hsz
          go_wp2_with fail
          go_loopw [10, 46] (fun q i wi => ∃ (k : Nat) (Ls : List LP), k ≤ nh ∧ i = .int .i64 (k : Int) ∧ FL w w9 wi (V 2) code k q Ls) (fun _ i _ => nh - (intOf i).toNat)
          case atStart => exact ⟨0, [], Nat.zero_le _, rfl, FL.start _ _ _ _⟩
          case round =>
            obtain ⟨k, Ls, hk, rfl, hL⟩ := hrel
            have hF := H9.out.1.later hL.below
            by_cases hkn : k < nh
            · obtain ⟨g9, rfl, hg9, hg9s⟩ := ha9 (by omega)
              obtain ⟨h, hh⟩ : ∃ h, (headsL code)[k]? = some h := ⟨_, List.getElem?_eq_getElem (by rw [← H9.out.2.2]; exact hkn)⟩
              have hch : wr.cell? ⟨g9, k, none⟩ = some (.int .i64 h) := by
                refine (hL.below.cell (p := ⟨g9, k, none⟩) hg9s).trans ?_
                rw [OwnInts.cell H9.out.2.1 (k := k) (by rw [← H9.out.2.2]; exact hkn), List.getD_eq_getElem?_getD, hh]; rfl
              have hin := headsL_in (List.mem_of_getElem? hh)
              have hh0 : 0 ≤ h ∧ h < 1024 := by have := hin.lo; have := hin.hi; have := hin.has; omega
              have HL := Lib.hid hL
              have HFr := Lib.hid hF
              have Hh := Lib.hid (And.intro hh hin)
              clear hL hF hh hin
              go_upto_region 16 with (fail)
              obtain ⟨ah, lh, ch, hvh⟩ : ∃ ah lh ch, V 2 h = .slice ah lh ch := owns_slice (HFr.out.gg.each 2 h (by omega))
              go_cut [13] from 50 to 59 (fun p wc => LC wr h (.slice ah lh ch) (memL code h) p wc)
              case first =>
                obtain ⟨B0, hBe⟩ : ∃ B0, B0 = wr.heap.size := ⟨_, rfl⟩
                refine wp_region_held (S := Below B0 wr.drew) rfl ?_
                change wpAnyH _ _ _ _ (Below B0 wr.drew) _ _ _ wr.drew
                obtain ⟨W0, hW0⟩ : ∃ W0, W0 = wr.drew := ⟨_, rfl⟩
                rw [← hW0]
                have hb0' : Below wr.heap.size wr W0 := by rw [hW0]; exact (Below.refl _ _).drew
                have hs0' : W0.heap.size = wr.heap.size := by rw [hW0]; rfl
                have hB0 : B0 ≤ W0.heap.size := by omega
                have hB0' : W0.heap.size ≤ B0 := by omega
                have HG0 := Lib.hid (HFr.out.later hb0')
                have HGB : ∀ W, Below B0 W0 W → FG w W b5 b0 Bg Ng V s vp regs words (.slice ac n cc) code := fun W hb => HG0.out.later (hb.mono hB0')
                have HW0 := Lib.hid (And.intro hb0' hs0')
                have hh9 : -9223372036854775808 ≤ h ∧ h ≤ 9223372036854775807 := by omega
                have Hb : Hid (Below B0 W0 W0) := Below.refl _ _
                clear hb0' hs0' hW0 hBe
                have hh1 := Hh.out.2
                refine wpAnyH_take (i := 0) rfl (by kernel_rfl) (by kernel_rfl) (by kernel_rfl) (fun _ _ _ h => h) (Or.inl ⟨by rfl, fun w hw => by (go_simp; try rfl)⟩) Hb.out ?_
                refine wpAnyH_take (i := 1) rfl (by kernel_rfl) (by kernel_rfl) (by kernel_rfl) (fun _ _ _ h => h) (Or.inl ⟨by rfl, fun w hw => by (obtain ⟨c0, c1, c2⟩ := (HGB _ hw).box; go_simp; try rfl)⟩) Hb.out ?_
                refine wpAnyH_take (i := 2) rfl (by kernel_rfl) (by kernel_rfl) (by kernel_rfl) (fun _ _ _ h => h) (Or.inl ⟨by rfl, fun w hw => by (go_simp; try rfl)⟩) Hb.out ?_
                refine wpAnyH_take (i := 5) rfl (by kernel_rfl) (by kernel_rfl) (by kernel_rfl) (fun _ _ _ h => h) (Or.inl ⟨by rfl, fun w hw => by (go_simp; try rfl)⟩) Hb.out ?_
                refine wpAnyH_take (i := 6) rfl (by kernel_rfl) (by kernel_rfl) (by kernel_rfl) (fun _ _ _ h => h) (Or.inl ⟨by rfl, fun w hw => by (obtain ⟨c0, c1, c2⟩ := (HGB _ hw).box; go_simp; try rfl)⟩) Hb.out ?_
                refine wpAnyH_take (i := 7) rfl (by kernel_rfl) (by kernel_rfl) (by kernel_rfl) (fun _ _ _ h => h) (Or.inl ⟨by rfl, fun w hw => by (go_simp; try rfl)⟩) Hb.out ?_
                refine wpAnyH_take (i := 8) (v := .slice ah lh ch) rfl (by kernel_rfl) (by kernel_rfl) (by kernel_rfl) (fun _ _ _ h => h) (Or.inl ⟨by rfl, fun w hw => by (have hlk := ((HGB _ hw).gg.map 2 (by omega)).look hh9; go_simp; try rw [hlk]; try rw [hvh]; try rfl)⟩) Hb.out ?_
                refine wpAnyH_ready (rs := [3, 10]) (by kernel_rfl) (by simp) ?_
                refine AllReadyH.cons rfl (fun K hK => ?_) ?_
                · go_simp
                  refine (members_any b0 code h _ (HGB _ Hb.out).graph hh0).mono ?_
                  rintro e wM1 ⟨bS, S, rfl, -, hS, hSm, hbN⟩
                  have HS := Lib.hid hS
                  have HSm : Hid (S.length ≤ 1000000 ∧ sortL S = memL code h) := set_is hh1 hS.nodup hSm
                  clear hS hSm
                  try dsimp only
                  refine hK.out _ _ (Hb.out.trans (hbN.mono (Nat.le_trans hB0 Hb.out.size))) (fun _ => ?_)
                  clear hK K
                  have Hb : Hid (Below B0 W0 wM1) := Hb.out.trans (hbN.mono (Nat.le_trans hB0 Hb.out.size))
                  clear hbN
                  refine wpAnyH_ready (rs := [4, 10]) (by kernel_rfl) (by simp) ?_
                  refine AllReadyH.cons rfl (fun K hK => ?_) ?_
                  · go_simp
                    refine (sorted_any bS S _ HS.out HSm.out.1).mono ?_
                    rintro e wS2 ⟨vm, rfl, hvm, hbN⟩
                    rw [HSm.out.2] at hvm
                    obtain ⟨am, lm, cm, hvf⟩ := owns_slice hvm
                    subst hvf
                    have HV0 : Hid (OwnInts wS2 W0.heap.size (.slice am lm cm) (memL code h)) := ownsRow_mono hvm Hb.out.size
                    clear hvm
                    try dsimp only
                    refine hK.out _ _ (Hb.out.trans (hbN.mono (Nat.le_trans hB0 Hb.out.size))) (fun _ => ?_)
                    clear hK K
                    have Hb : Hid (Below B0 W0 wS2) := Hb.out.trans (hbN.mono (Nat.le_trans hB0 Hb.out.size))
                    clear hbN
                    have HV := HV0
                    refine wpAnyH_take (i := 9) rfl (by kernel_rfl) (by kernel_rfl) (by kernel_rfl) (fun _ _ _ h => h) (Or.inl ⟨by rfl, fun w hw => by (go_simp; try rfl)⟩) Hb.out ?_
                    refine wpAnyH_ready (rs := [10]) (by kernel_rfl) (by simp) ?_
                    refine AllReadyH.cons rfl (fun K hK => ?_) ?_
                    · go_simp
                      refine hK.out _ _ (Hb.out.alloc (Nat.le_trans hB0 Hb.out.size) _) (fun _ => ?_)
                      clear hK K
                      obtain ⟨c, hc⟩ : ∃ c, c = wS2.heap.size := ⟨_, rfl⟩
                      obtain ⟨wA3, hwA⟩ : ∃ wA, wA = wS2.alloc (.cells #[.int .i64 0, .int .i64 0, .slice none 0 0, .slice none 0 0] 40) := ⟨_, rfl⟩
                      rw [← hc, ← hwA]
                      have hbN : Below wS2.heap.size wS2 wA3 := by rw [hwA]; exact (Below.refl _ _).alloc (Nat.le_refl _) _
                      have HZ0 : Hid (CZ W0 c wA3) := by rw [hc, hwA]; exact CZ.new Hb.out.size
                      have HNe : Hid ((Value.slice am lm cm).ownBlock ≠ some c) := fun e => by have := (World.ownsRow.lt HV.out c e).2; omega
                      clear hc hwA
                      have Hb : Hid (Below B0 W0 wA3) := Hb.out.trans (hbN.mono (Nat.le_trans hB0 Hb.out.size))
                      have HV : Hid (OwnInts wA3 W0.heap.size (.slice am lm cm) (memL code h)) := ownsRow_below HV.out hbN (Nat.le_refl _)
                      clear hbN
                      have HZ := HZ0
                      refine wpAnyH_ready (rs := [11]) (by kernel_rfl) (by simp) ?_
                      refine AllReadyH.cons rfl (fun K hK => ?_) ?_
                      · obtain ⟨hz1, hz2, z0, z1, z2, z3, zf⟩ := HZ.out
                        have zf0 := zf 0; have zf1 := zf 1; have zf2 := zf 2; have zf3 := zf 3
                        have HFin := Lib.hid (LC.mk' (h := h) (vb := .slice ah lh ch) HW0.out HZ.out HV.out (Hb.out.mono hB0') HNe.out)
                        go_simp
                        refine hK.out _ _ ((((Hb.out.setCell (Nat.le_trans hB0 hz1) _).setCell (Nat.le_trans hB0 hz1) _).setCell (Nat.le_trans hB0 hz1) _).setCell (Nat.le_trans hB0 hz1) _) (fun _ => ?_)
                        clear hK K
                        refine wpAnyH_done (by kernel_rfl) ?_ _
                        (go_wp2_with fail; go_meet; case rel => exact HFin.out)
                      exact AllReadyH.nil
                    exact AllReadyH.nil
                  refine AllReadyH.cons rfl (fun K hK => ?_) ?_
                  · go_simp
                    refine hK.out _ _ (Hb.out.alloc (Nat.le_trans hB0 Hb.out.size) _) (fun _ => ?_)
                    clear hK K
                    obtain ⟨c, hc⟩ : ∃ c, c = wM1.heap.size := ⟨_, rfl⟩
                    obtain ⟨wA4, hwA⟩ : ∃ wA, wA = wM1.alloc (.cells #[.int .i64 0, .int .i64 0, .slice none 0 0, .slice none 0 0] 40) := ⟨_, rfl⟩
                    rw [← hc, ← hwA]
                    have hbN : Below wM1.heap.size wM1 wA4 := by rw [hwA]; exact (Below.refl _ _).alloc (Nat.le_refl _) _
                    have HZ0 : Hid (CZ W0 c wA4) := by rw [hc, hwA]; exact CZ.new Hb.out.size
                    clear hc hwA
                    have Hb : Hid (Below B0 W0 wA4) := Hb.out.trans (hbN.mono (Nat.le_trans hB0 Hb.out.size))
                    have HS := Lib.hid (HS.out.later hbN HS.out.lt)
                    clear hbN
                    have HZ := HZ0
                    refine wpAnyH_ready (rs := [4]) (by kernel_rfl) (by simp) ?_
                    refine AllReadyH.cons rfl (fun K hK => ?_) ?_
                    · go_simp
                      refine (sorted_any bS S _ HS.out HSm.out.1).mono ?_
                      rintro e wS5 ⟨vm, rfl, hvm, hbN⟩
                      rw [HSm.out.2] at hvm
                      obtain ⟨am, lm, cm, hvf⟩ := owns_slice hvm
                      subst hvf
                      have HNe : Hid ((Value.slice am lm cm).ownBlock ≠ some c) := fun e => by have h1 := (World.ownsRow.lt hvm c e).1; have h2 := HZ.out.lt; omega
                      have HV0 : Hid (OwnInts wS5 W0.heap.size (.slice am lm cm) (memL code h)) := ownsRow_mono hvm Hb.out.size
                      clear hvm
                      try dsimp only
                      refine hK.out _ _ (Hb.out.trans (hbN.mono (Nat.le_trans hB0 Hb.out.size))) (fun _ => ?_)
                      clear hK K
                      have Hb : Hid (Below B0 W0 wS5) := Hb.out.trans (hbN.mono (Nat.le_trans hB0 Hb.out.size))
                      have HZ := Lib.hid (HZ.out.later hbN)
                      clear hbN
                      have HV := HV0
                      refine wpAnyH_take (i := 9) rfl (by kernel_rfl) (by kernel_rfl) (by kernel_rfl) (fun _ _ _ h => h) (Or.inl ⟨by rfl, fun w hw => by (go_simp; try rfl)⟩) Hb.out ?_
                      refine wpAnyH_ready (rs := [11]) (by kernel_rfl) (by simp) ?_
                      refine AllReadyH.cons rfl (fun K hK => ?_) ?_
                      · obtain ⟨hz1, hz2, z0, z1, z2, z3, zf⟩ := HZ.out
                        have zf0 := zf 0; have zf1 := zf 1; have zf2 := zf 2; have zf3 := zf 3
                        have HFin := Lib.hid (LC.mk' (h := h) (vb := .slice ah lh ch) HW0.out HZ.out HV.out (Hb.out.mono hB0') HNe.out)
                        go_simp
                        refine hK.out _ _ ((((Hb.out.setCell (Nat.le_trans hB0 hz1) _).setCell (Nat.le_trans hB0 hz1) _).setCell (Nat.le_trans hB0 hz1) _).setCell (Nat.le_trans hB0 hz1) _) (fun _ => ?_)
                        clear hK K
                        refine wpAnyH_done (by kernel_rfl) ?_ _
                        (go_wp2_with fail; go_meet; case rel => exact HFin.out)
                      exact AllReadyH.nil
                    exact AllReadyH.nil
                  exact AllReadyH.nil
                refine AllReadyH.cons rfl (fun K hK => ?_) ?_
                · go_simp
                  refine hK.out _ _ (Hb.out.alloc (Nat.le_trans hB0 Hb.out.size) _) (fun _ => ?_)
                  clear hK K
                  obtain ⟨c, hc⟩ : ∃ c, c = W0.heap.size := ⟨_, rfl⟩
                  obtain ⟨wA6, hwA⟩ : ∃ wA, wA = W0.alloc (.cells #[.int .i64 0, .int .i64 0, .slice none 0 0, .slice none 0 0] 40) := ⟨_, rfl⟩
                  rw [← hc, ← hwA]
                  have hbN : Below W0.heap.size W0 wA6 := by rw [hwA]; exact (Below.refl _ _).alloc (Nat.le_refl _) _
                  have HZ0 : Hid (CZ W0 c wA6) := by rw [hc, hwA]; exact CZ.new Hb.out.size
                  clear hc hwA
                  have Hb : Hid (Below B0 W0 wA6) := Hb.out.trans (hbN.mono (Nat.le_trans hB0 Hb.out.size))
                  clear hbN
                  have HZ := HZ0
                  refine wpAnyH_ready (rs := [3]) (by kernel_rfl) (by simp) ?_
                  refine AllReadyH.cons rfl (fun K hK => ?_) ?_
                  · go_simp
                    refine (members_any b0 code h _ (HGB _ Hb.out).graph hh0).mono ?_
                    rintro e wM7 ⟨bS, S, rfl, -, hS, hSm, hbN⟩
                    have HS := Lib.hid hS
                    have HSm : Hid (S.length ≤ 1000000 ∧ sortL S = memL code h) := set_is hh1 hS.nodup hSm
                    clear hS hSm
                    try dsimp only
                    refine hK.out _ _ (Hb.out.trans (hbN.mono (Nat.le_trans hB0 Hb.out.size))) (fun _ => ?_)
                    clear hK K
                    have Hb : Hid (Below B0 W0 wM7) := Hb.out.trans (hbN.mono (Nat.le_trans hB0 Hb.out.size))
                    have HZ := Lib.hid (HZ.out.later hbN)
                    clear hbN
                    refine wpAnyH_ready (rs := [4]) (by kernel_rfl) (by simp) ?_
                    refine AllReadyH.cons rfl (fun K hK => ?_) ?_
                    · go_simp
                      refine (sorted_any bS S _ HS.out HSm.out.1).mono ?_
                      rintro e wS8 ⟨vm, rfl, hvm, hbN⟩
                      rw [HSm.out.2] at hvm
                      obtain ⟨am, lm, cm, hvf⟩ := owns_slice hvm
                      subst hvf
                      have HNe : Hid ((Value.slice am lm cm).ownBlock ≠ some c) := fun e => by have h1 := (World.ownsRow.lt hvm c e).1; have h2 := HZ.out.lt; omega
                      have HV0 : Hid (OwnInts wS8 W0.heap.size (.slice am lm cm) (memL code h)) := ownsRow_mono hvm Hb.out.size
                      clear hvm
                      try dsimp only
                      refine hK.out _ _ (Hb.out.trans (hbN.mono (Nat.le_trans hB0 Hb.out.size))) (fun _ => ?_)
                      clear hK K
                      have Hb : Hid (Below B0 W0 wS8) := Hb.out.trans (hbN.mono (Nat.le_trans hB0 Hb.out.size))
                      have HZ := Lib.hid (HZ.out.later hbN)
                      clear hbN
                      have HV := HV0
                      refine wpAnyH_take (i := 9) rfl (by kernel_rfl) (by kernel_rfl) (by kernel_rfl) (fun _ _ _ h => h) (Or.inl ⟨by rfl, fun w hw => by (go_simp; try rfl)⟩) Hb.out ?_
                      refine wpAnyH_ready (rs := [11]) (by kernel_rfl) (by simp) ?_
                      refine AllReadyH.cons rfl (fun K hK => ?_) ?_
                      · obtain ⟨hz1, hz2, z0, z1, z2, z3, zf⟩ := HZ.out
                        have zf0 := zf 0; have zf1 := zf 1; have zf2 := zf 2; have zf3 := zf 3
                        have HFin := Lib.hid (LC.mk' (h := h) (vb := .slice ah lh ch) HW0.out HZ.out HV.out (Hb.out.mono hB0') HNe.out)
                        go_simp
                        refine hK.out _ _ ((((Hb.out.setCell (Nat.le_trans hB0 hz1) _).setCell (Nat.le_trans hB0 hz1) _).setCell (Nat.le_trans hB0 hz1) _).setCell (Nat.le_trans hB0 hz1) _) (fun _ => ?_)
                        clear hK K
                        refine wpAnyH_done (by kernel_rfl) ?_ _
                        (go_wp2_with fail; go_meet; case rel => exact HFin.out)
                      exact AllReadyH.nil
                    exact AllReadyH.nil
                  exact AllReadyH.nil
                exact AllReadyH.nil
              case rest =>
                obtain ⟨c, vm, rfl, hclt, k0, k1, k2, k3, hvm, hbc⟩ := hcut
                obtain ⟨am, lm, cm, rfl⟩ := owns_slice hvm
                have hFc := HFr.out.later hbc
                obtain ⟨f0, f1, f2, f3, f4⟩ := hFc.fn
                have hltc : w.heap.size < wc.heap.size := by have := hFc.lt; omega
                have hvb : OwnInts wc w.heap.size (.slice ah lh ch) (toI (backsE code) h) := by
                  have := hFc.gg.each 2 h (by omega)
                  rw [hvh, gf_at2] at this
                  exact ownsRow_mono this (by have := hFc.gg.low; have := hFc.low; omega)
                have hm0 : IntsIn wc (.slice am lm cm) (memL code h) := SliceIn.of_owns hvm
                have hb0' : IntsIn wc (.slice ah lh ch) (toI (backsE code) h) := SliceIn.of_owns hvb
                have HFc := Lib.hid hFc
                have HV := Lib.hid (And.intro hvm (And.intro hvb (And.intro hm0 (And.intro hb0' hbc))))
                clear hvm hvb hm0 hb0' hbc hFc
                go_wp2_with fail
                refine (counts_any _ _ _ _ _ code h (-1) _ _ (memL code h) (toI (backsE code) h) _ HFc.out.code HV.out.2.2.1 HV.out.2.2.2.1 HFc.out.writes Hh.out.2.has ⟨Hh.out.2.lo, Hh.out.2.hi⟩ (fun u hu => memL_range hu) (fun u hu => backs_range hu) (by have := memL_len code h; have := Hh.out.2.has; omega) (by have := toI_lenB code h; omega)).mono ?_
                rintro e w17 ⟨rfl, hb17⟩
                obtain ⟨⟨E, A⟩, hEA⟩ : ∃ EA, EA = countsOf code h (memL code h) (toI (backsE code) h) := ⟨_, rfl⟩
                rw [← hEA]
                have HEA := Lib.hid hEA
                have q0 := (hb17.cell (p := ⟨c, 0, none⟩) hclt).trans k0
                have q1 := (hb17.cell (p := ⟨c, 1, none⟩) hclt).trans k1
                have q2 := (hb17.cell (p := ⟨c, 2, none⟩) hclt).trans k2
                have q3 := (hb17.cell (p := ⟨c, 3, none⟩) hclt).trans k3
                have hclt17 : c < w17.heap.size := Nat.lt_of_lt_of_le hclt hb17.size
                have H17 := Lib.hid hb17
                clear hEA hb17 k0 k1 k2 k3 f0 f1 f2 f3 f4 hltc hclt
                by_cases hE : E = 0
                · subst hE
                  have hll : Ls.length ≤ 1000000 := by
                    have h1 := congrArg List.length HL.out.d
                    rw [List.length_map, List.length_map, List.length_take] at h1
                    have h2 := headsL_len code
                    have h3 := Hh.out.2.has
                    omega
                  have hrow17 : w17.ownsRow w9.heap.size 40 4 u10 Ls.length (loopVs Ls) := (HL.out.later (HV.out.2.2.2.2.trans (H17.out.mono HV.out.2.2.2.2.size))).own.row
                  have hs17 : w9.heap.size ≤ w17.heap.size := by have h1 := HL.out.below.size; have h2 := HV.out.2.2.2.2.size; have h3 := H17.out.size; omega
                  have Hrow := Lib.hid hrow17
                  clear hrow17
                  go_wp2_with (at_builtin; refine append_loop rfl _ _ rfl w9.heap.size _ Ls rfl Hrow.out h (-1) am lm cm ah lh ch rfl hll hs17 ?_)
                  intro v18 w18 ho18 hg18 hf18 hb18
                  have hL18 : FL w w9 w18 (V 2) code (k + 1) v18 (Ls ++ [⟨h, -1, .slice am lm cm, .slice ah lh ch, memL code h, toI (backsE code) h⟩]) := by
                    have hA : Below w17.heap.size w17 (w17.alloc (.cells #[.int .i64 h, .int .i64 (-1), .slice am lm cm, .slice ah lh ch] 40)) := (Below.refl _ _).alloc (Nat.le_refl _) _
                    have hcA : Below wc.heap.size wc (w17.alloc (.cells #[.int .i64 h, .int .i64 (-1), .slice am lm cm, .slice ah lh ch] 40)) := H17.out.trans (hA.mono H17.out.size)
                    have hrA : Below wr.heap.size wr (w17.alloc (.cells #[.int .i64 h, .int .i64 (-1), .slice am lm cm, .slice ah lh ch] 40)) := HV.out.2.2.2.2.trans (hcA.mono HV.out.2.2.2.2.size)
                    refine HL.out.snoc H9.out.1.gg Hh.out.1 hvh.symm (ownsRow_below HV.out.1 hcA (Nat.le_refl _)) (ownsRow_below HV.out.2.1 hcA (Nat.le_refl _)) hrA (by have := H9.out.1.below.size; omega) (by rw [← HEA.out]) ho18 hg18 hf18 ?_
                    refine hb18 w9.heap.size w9 ?_ (Nat.le_refl _)
                    have h1 : Below wr.heap.size wr w17 := HV.out.2.2.2.2.trans (H17.out.mono HV.out.2.2.2.2.size)
                    exact HL.out.below.trans (h1.mono HL.out.below.size)
                  have HL18 := Lib.hid hL18
                  clear ho18 hg18 hf18 hb18 hL18
                  go_wp2_with fail
                  go_roundw
                  case rel => exact ⟨k + 1, _, hkn, by go_num, HL18.out⟩
                  case measure => simp [intOf]; omega
                · have Hres : Hid (FindIs code [] E A) := .inr (.inr (.inl ⟨Hh.out.2.has, Hno.out, rfl, k, h, Hh.out.1, HL.out.ok, HEA.out.symm, hE⟩))
                  have hq : (E != 0) = true := by simp [hE]
                  have Hbf : Hid (Below w.heap.size w w17) := by
                    have h1 := HFc.out.below
                    exact h1.trans (H17.out.mono h1.size)
                  clear hE
                  go_wp2_with fail
                  go_ret3
                  exact ⟨_, [], E, A, rfl, OwnLoops.nil _ _ _, Hres.out, Hbf.out⟩
            · obtain rfl : nh = k := by omega
              have hds : Ls.map LP.d = (headsL code).map (loopD code) := by
                rw [hL.d, List.take_of_length_le (by rw [← H9.out.2.2]; exact Nat.le_refl _)]
              have hlen : Ls.length = nh := by
                have := congrArg List.length hds
                rw [List.length_map, List.length_map] at this
                rw [this, ← H9.out.2.2]
              obtain ⟨ds, hdse⟩ : ∃ ds, ds = (headsL code).map (loopD code) := ⟨_, rfl⟩
              rw [← hdse] at hds
              have hdl : ds.length = nh := by rw [hdse, List.length_map, ← H9.out.2.2]
              have hP0 : PL w w9 wr ds u10 (outP ds nh 0) Ls := by
                refine ⟨hL.own, hds, ?_, hL.below⟩
                rw [outP, ← hlen]
                refine List.eq_replicate_iff.2 ⟨by rw [List.length_map], fun b hb => ?_⟩
                obtain ⟨x, hx, rfl⟩ := List.mem_map.1 hb
                exact hL.par x hx
              have hokA : ∀ h ∈ headsL code, (countsOf code h (memL code h) (toI (backsE code) h)).1 = 0 := fun h hh => by
                obtain ⟨j, hj, e⟩ := List.mem_iff_getElem.1 hh
                exact hL.ok j h (by rw [H9.out.2.2]; exact hj) (by rw [List.getElem?_eq_getElem hj, e])
              have hform : ∃ aq cq, u10 = .slice aq nh cq ∧ (0 < nh → ∃ g, aq = some ⟨g, 0, none⟩ ∧ w9.heap.size ≤ g) := by
                rcases hL.own.row.2 with ⟨h, h2⟩ | ⟨g, cap, cur, h, h3, _⟩
                · exact ⟨none, 0, by rw [h, ← hlen, h2], fun h0 => by omega⟩
                · exact ⟨_, cap, by rw [h, hlen], fun _ => ⟨g, rfl, h3⟩⟩
              obtain ⟨aq, cq, rfl, haq⟩ := hform
              have HP0 := Lib.hid hP0
              have HA := Lib.hid (And.intro hokA (And.intro hdse hdl))
              clear hL hF hds hlen hP0 hokA hdse hdl hkn
              go_wp2_with fail
              go_loopw [77] (fun iv wi => ∃ (i : Nat) (L2 : List LP), i ≤ nh ∧ iv = .int .i64 (i : Int) ∧ PL w w9 wi ds (.slice aq nh cq) (outP ds nh i) L2) (fun iv _ => nh - (intOf iv).toNat)
              case atStart => exact ⟨0, Ls, Nat.zero_le _, rfl, HP0.out⟩
              case round =>
                obtain ⟨i, L2, hi, rfl, hP⟩ := hrel
                have HP := Lib.hid hP
                clear hP
                by_cases hin' : i < nh
                · obtain ⟨g, rfl, hgw⟩ := haq (by omega)
                  go_wp2_with fail
                  go_loopw [82] (fun kv wi => ∃ (k : Nat) (L3 : List LP), k ≤ nh ∧ kv = .int .i64 (k : Int) ∧ PL w w9 wi ds (.slice (some ⟨g, 0, none⟩) nh cq) (inP ds (outP ds nh i) i k) L3) (fun kv _ => nh - (intOf kv).toNat)
                  case atStart => exact ⟨0, L2, Nat.zero_le _, rfl, HP.out⟩
                  case round =>
                    obtain ⟨k, L3, hk, rfl, hQ⟩ := hrel
                    by_cases hkn : k < nh
                    · obtain ⟨xi, hxi⟩ : ∃ x, L3[i]? = some x := ⟨_, List.getElem?_eq_getElem (by rw [hQ.len, HA.out.2.2]; exact hin')⟩
                      obtain ⟨xk, hxk⟩ : ∃ x, L3[k]? = some x := ⟨_, List.getElem?_eq_getElem (by rw [hQ.len, HA.out.2.2]; exact hkn)⟩
                      obtain ⟨hni, hpi⟩ := hQ.nth hxi
                      obtain ⟨hnk, -⟩ := hQ.nth hxk
                      have hpr : -1 ≤ xi.parent ∧ xi.parent < nh := by
                        refine (ParOK.out nh ds i).inn (ds := ds) (i := i) k hk xi.parent ?_
                        rw [← hQ.par]
                        exact List.mem_map_of_mem (List.mem_of_getElem? hxi)
                      obtain ⟨pn, xp, hxp, hpn, hpz⟩ : ∃ pn xp, L3[pn]? = some xp ∧ pn < nh ∧ (0 ≤ xi.parent → xi.parent = (pn : Int)) := by
                        by_cases hz : 0 ≤ xi.parent
                        · exact ⟨xi.parent.toNat, _, List.getElem?_eq_getElem (by rw [hQ.len, HA.out.2.2]; omega), by omega, fun _ => by omega⟩
                        · exact ⟨k, xk, hxk, hkn, fun h => absurd h hz⟩
                      obtain ⟨hnp, -⟩ := hQ.nth hxp
                      have hcond : condP ds (inP ds (outP ds nh i) i k) i k = (decide (i ≠ k) && xk.mem.contains xi.head && (decide (xi.parent < 0) || decide (xk.mem.length < (nthD ds xi.parent.toNat).2.1.length))) := by
                        unfold condP withinD
                        rw [hpi, hni, hnk]; rfl
                      have hcl := hQ.own.toIn
                      obtain ⟨ci0, ci1, -, -⟩ := hcl.at' hxi
                      obtain ⟨-, -, ck2, -⟩ := hcl.at' hxk
                      obtain ⟨-, -, cp2, -⟩ := hcl.at' hxp
                      obtain ⟨amk, nmk, cmk, hvk, hnmk⟩ : ∃ a n c, xk.vm = .slice a n c ∧ n = xk.mem.length := by
                        obtain ⟨-, a, c, h, _⟩ := (hcl.each xk (List.mem_of_getElem? hxk)).1
                        exact ⟨a, _, c, h, rfl⟩
                      obtain ⟨amp, nmp, cmp, hvp, hnmp⟩ : ∃ a n c, xp.vm = .slice a n c ∧ n = xp.mem.length := by
                        obtain ⟨-, a, c, h, _⟩ := (hcl.each xp (List.mem_of_getElem? hxp)).1
                        exact ⟨a, _, c, h, rfl⟩
                      obtain ⟨hdI, hhd⟩ : ∃ z, z = xi.head := ⟨_, rfl⟩
                      obtain ⟨p, hpe⟩ : ∃ z, z = xi.parent := ⟨_, rfl⟩
                      rw [hvk] at ck2
                      rw [hvp] at cp2
                      rw [← hhd] at ci0 hcond
                      rw [← hpe] at ci1 hcond hpr hpz
                      rw [Nat.zero_add] at ci0 ci1 ck2 cp2
                      have hgs : g < wr.heap.size := (World.ownsRow.lt hQ.own.row g rfl).2
                      have hcap : nh ≤ cq := by
                        rcases hQ.own.row.2 with ⟨h, _⟩ | ⟨_, _, _, h, _, _, h2, _⟩
                        · cases h
                        · cases h; rw [hQ.len, HA.out.2.2] at h2; exact h2
                      have hLo : ∀ W', Below wr.heap.size wr W' → LoopsIn W' (.slice (some ⟨g, k * 4, none⟩) 1 (cq - k)) [xk] := fun W' hb => (hQ.own.later hb).one hxk
                      have hfz : wr.frozen? ⟨g, i * 4 + 1, none⟩ = false := by
                        have h1 := hQ.own.row
                        rw [hQ.len, HA.out.2.2] at h1
                        exact World.ownsRow.frozenAt h1 (i * 4 + 1)
                      have hlL : i < L3.length := by rw [hQ.len, HA.out.2.2]; exact hin'
                      have HQ := Lib.hid (And.intro hQ (And.intro hlL (And.intro ci1 hfz)))
                      have Hdepv := Lib.hid (depthOne xk hdI)
                      have Hnp := Lib.hid (And.intro hnp (And.intro hnmk hnmp))
                      have HcondV := Lib.hid hcond
                      have HC0 := Lib.hid (And.intro ci0 (And.intro ci1 (And.intro ck2 cp2)))
                      have HLo0 := Lib.hid hLo
                      obtain ⟨cnd, hcnd⟩ : ∃ b, b = condP ds (inP ds (outP ds nh i) i k) i k := ⟨_, rfl⟩
                      have HcndE := Lib.hid hcnd
                      clear hQ hxi hxk hxp hni hpi hnk hnp hcond hcl ci0 ci1 ck2 cp2 hvk hvp hhd hpe hLo hfz hlL hnmk hnmp hcnd
                      go_upto_region 28 with (fail)
                      go_cut [128] (fun v wc => v = .bool cnd ∧ Below wr.heap.size wr wc)
                      case first =>
                        obtain ⟨B0, hBe⟩ : ∃ B0, B0 = wr.heap.size := ⟨_, rfl⟩
                        refine wp_region_held (S := Below B0 wr.drew) rfl ?_
                        change wpAnyH _ _ _ _ (Below B0 wr.drew) _ _ _ wr.drew
                        obtain ⟨W0, hW0⟩ : ∃ W0, W0 = wr.drew := ⟨_, rfl⟩
                        rw [← hW0]
                        have hb0' : Below wr.heap.size wr W0 := by rw [hW0]; exact (Below.refl _ _).drew
                        have hs0' : W0.heap.size = wr.heap.size := by rw [hW0]; rfl
                        have hB0 : B0 ≤ W0.heap.size := by omega
                        have hBw : wr.heap.size ≤ B0 := by omega
                        have HbW := Lib.hid hb0'
                        have HLo : Hid (∀ W', Below B0 W0 W' → LoopsIn W' (.slice (some ⟨g, k * 4, none⟩) 1 (cq - k)) [xk]) := fun W' hb => HLo0.out W' (hb0'.trans (hb.mono hBw))
                        have HC : Hid (∀ W', Below B0 W0 W' → W'.cell? ⟨g, i * 4, none⟩ = some (.int .i64 hdI) ∧ W'.cell? ⟨g, i * 4 + 1, none⟩ = some (.int .i64 p) ∧ W'.cell? ⟨g, k * 4 + 2, none⟩ = some (.slice amk nmk cmk) ∧ W'.cell? ⟨g, pn * 4 + 2, none⟩ = some (.slice amp nmp cmp)) := fun W' hb => by
                          have h1 := hb0'.trans (hb.mono hBw)
                          obtain ⟨z0, z1, z2, z3⟩ := HC0.out
                          exact ⟨(h1.cell (p := ⟨g, i * 4, none⟩) hgs).trans z0, (h1.cell (p := ⟨g, i * 4 + 1, none⟩) hgs).trans z1, (h1.cell (p := ⟨g, k * 4 + 2, none⟩) hgs).trans z2, (h1.cell (p := ⟨g, pn * 4 + 2, none⟩) hgs).trans z3⟩
                        have Hb : Hid (Below B0 W0 W0) := Below.refl _ _
                        have hk9 : k ≤ 1024 := by omega
                        have hkc : k + 1 ≤ cq := by omega
                        have hkc2 : (k : Int) + 1 ≤ (cq : Int) := by omega
                        have hkc3 : ¬ cq = k := by omega
                        clear hb0' hs0' hW0 hBe
                        by_cases hik : i = k
                        · have hq1 : ((i : Int) != (k : Int)) = false := by simp [hik]
                          have Hcond : Hid (cnd = false) := by show _ = _; rw [HcndE.out, HcondV.out, hik]; simp
                          clear hik
                          refine wpAnyH_take (i := 0) (by simp only [List.getElem?_toArray, List.getElem?_cons_zero]; rfl) (by kernel_rfl) (by kernel_rfl) (by kernel_rfl) (by intro _ _ _ h; exact h) (Or.inl ⟨by rfl, fun w hw => by (obtain ⟨z0, z1, z2, z3⟩ := HC.out w hw; go_simp; try rfl)⟩) Hb.out ?_
                          refine wpAnyH_take (i := 1) (by simp only [List.getElem?_toArray, List.getElem?_cons_succ, List.getElem?_cons_zero]; rfl) (by kernel_rfl) (by kernel_rfl) (by kernel_rfl) (by intro _ _ _ h; exact h) (Or.inl ⟨by rfl, fun w hw => by (obtain ⟨z0, z1, z2, z3⟩ := HC.out w hw; go_simp; try rfl)⟩) Hb.out ?_
                          try go_frame
                          refine wpAnyH_take (i := 2) (by simp only [List.getElem?_toArray, List.getElem?_cons_succ, List.getElem?_cons_zero]; rfl) (by kernel_rfl) (by kernel_rfl) (by kernel_rfl) (by intro _ _ _ h; exact h) (Or.inl ⟨by rfl, fun w hw => by (obtain ⟨z0, z1, z2, z3⟩ := HC.out w hw; go_simp; try rfl)⟩) Hb.out ?_
                          refine wpAnyH_take (i := 3) (by simp only [List.getElem?_toArray, List.getElem?_cons_succ, List.getElem?_cons_zero]; rfl) (by kernel_rfl) (by kernel_rfl) (by kernel_rfl) (by intro _ _ _ h; exact h) (Or.inl ⟨by rfl, fun w hw => by (obtain ⟨z0, z1, z2, z3⟩ := HC.out w hw; go_simp; try rfl)⟩) Hb.out ?_
                          try go_frame
                          refine wpAnyH_take (i := 4) (by simp only [List.getElem?_toArray, List.getElem?_cons_succ, List.getElem?_cons_zero]; rfl) (by kernel_rfl) (by kernel_rfl) (by kernel_rfl) (by intro _ _ _ h; exact h) (Or.inr ⟨by go_simp, rfl⟩) Hb.out ?_
                          refine wpAnyH_take (i := 5) (by simp only [List.getElem?_toArray, List.getElem?_cons_succ, List.getElem?_cons_zero]; rfl) (by kernel_rfl) (by kernel_rfl) (by kernel_rfl) (by intro _ _ _ h; exact h) (Or.inr ⟨by go_simp, rfl⟩) Hb.out ?_
                          try go_frame
                          refine wpAnyH_take (i := 6) (by simp only [List.getElem?_toArray, List.getElem?_cons_succ, List.getElem?_cons_zero]; rfl) (by kernel_rfl) (by kernel_rfl) (by kernel_rfl) (by intro _ _ _ h; exact h) (Or.inr ⟨by go_simp, rfl⟩) Hb.out ?_
                          refine wpAnyH_take (i := 7) (by simp only [List.getElem?_toArray, List.getElem?_cons_succ, List.getElem?_cons_zero]; rfl) (by kernel_rfl) (by kernel_rfl) (by kernel_rfl) (by intro _ _ _ h; exact h) (Or.inr ⟨by go_simp, rfl⟩) Hb.out ?_
                          try go_frame
                          refine wpAnyH_take (i := 8) (by simp only [List.getElem?_toArray, List.getElem?_cons_succ, List.getElem?_cons_zero]; rfl) (by kernel_rfl) (by kernel_rfl) (by kernel_rfl) (by intro _ _ _ h; exact h) (Or.inr ⟨by go_simp, rfl⟩) Hb.out ?_
                          refine wpAnyH_take (i := 9) (by simp only [List.getElem?_toArray, List.getElem?_cons_succ, List.getElem?_cons_zero]; rfl) (by kernel_rfl) (by kernel_rfl) (by kernel_rfl) (by intro _ _ _ h; exact h) (Or.inr ⟨by go_simp, rfl⟩) Hb.out ?_
                          try go_frame
                          refine wpAnyH_take (i := 10) (by simp only [List.getElem?_toArray, List.getElem?_cons_succ, List.getElem?_cons_zero]; rfl) (by kernel_rfl) (by kernel_rfl) (by kernel_rfl) (by intro _ _ _ h; exact h) (Or.inr ⟨by go_simp, rfl⟩) Hb.out ?_
                          refine wpAnyH_take (i := 11) (by simp only [List.getElem?_toArray, List.getElem?_cons_succ, List.getElem?_cons_zero]; rfl) (by kernel_rfl) (by kernel_rfl) (by kernel_rfl) (by intro _ _ _ h; exact h) (Or.inr ⟨by go_simp, rfl⟩) Hb.out ?_
                          try go_frame
                          refine wpAnyH_take (i := 12) (by simp only [List.getElem?_toArray, List.getElem?_cons_succ, List.getElem?_cons_zero]; rfl) (by kernel_rfl) (by kernel_rfl) (by kernel_rfl) (by intro _ _ _ h; exact h) (Or.inr ⟨by go_simp, rfl⟩) Hb.out ?_
                          refine wpAnyH_take (i := 13) (by simp only [List.getElem?_toArray, List.getElem?_cons_succ, List.getElem?_cons_zero]; rfl) (by kernel_rfl) (by kernel_rfl) (by kernel_rfl) (by intro _ _ _ h; exact h) (Or.inr ⟨by go_simp, rfl⟩) Hb.out ?_
                          try go_frame
                          refine wpAnyH_take (i := 14) (by simp only [List.getElem?_toArray, List.getElem?_cons_succ, List.getElem?_cons_zero]; rfl) (by kernel_rfl) (by kernel_rfl) (by kernel_rfl) (by intro _ _ _ h; exact h) (Or.inr ⟨by go_simp, rfl⟩) Hb.out ?_
                          try go_frame
                          refine wpAnyH_take (i := 15) (by simp only [List.getElem?_toArray, List.getElem?_cons_succ, List.getElem?_cons_zero]; rfl) (by kernel_rfl) (by kernel_rfl) (by kernel_rfl) (by intro _ _ _ h; exact h) (Or.inr ⟨by go_simp, rfl⟩) Hb.out ?_
                          try go_frame
                          refine wpAnyH_take (i := 16) (by simp only [List.getElem?_toArray, List.getElem?_cons_succ, List.getElem?_cons_zero]; rfl) (by kernel_rfl) (by kernel_rfl) (by kernel_rfl) (by intro _ _ _ h; exact h) (Or.inl ⟨by rfl, fun w hw => by (obtain ⟨z0, z1, z2, z3⟩ := HC.out w hw; go_simp; try rfl)⟩) Hb.out ?_
                          refine wpAnyH_take (i := 17) (by simp only [List.getElem?_toArray, List.getElem?_cons_succ, List.getElem?_cons_zero]; rfl) (by kernel_rfl) (by kernel_rfl) (by kernel_rfl) (by intro _ _ _ h; exact h) (Or.inl ⟨by rfl, fun w hw => by (obtain ⟨z0, z1, z2, z3⟩ := HC.out w hw; go_simp; try rfl)⟩) Hb.out ?_
                          try go_frame
                          refine wpAnyH_take (i := 18) (by simp only [List.getElem?_toArray, List.getElem?_cons_succ, List.getElem?_cons_zero]; rfl) (by kernel_rfl) (by kernel_rfl) (by kernel_rfl) (by intro _ _ _ h; exact h) (Or.inr ⟨by go_simp, rfl⟩) Hb.out ?_
                          refine wpAnyH_take (i := 19) (by simp only [List.getElem?_toArray, List.getElem?_cons_succ, List.getElem?_cons_zero]; rfl) (by kernel_rfl) (by kernel_rfl) (by kernel_rfl) (by intro _ _ _ h; exact h) (Or.inr ⟨by go_simp, rfl⟩) Hb.out ?_
                          try go_frame
                          refine wpAnyH_take (i := 20) (by simp only [List.getElem?_toArray, List.getElem?_cons_succ, List.getElem?_cons_zero]; rfl) (by kernel_rfl) (by kernel_rfl) (by kernel_rfl) (by intro _ _ _ h; exact h) (Or.inr ⟨by go_simp, rfl⟩) Hb.out ?_
                          refine wpAnyH_take (i := 21) (by simp only [List.getElem?_toArray, List.getElem?_cons_succ, List.getElem?_cons_zero]; rfl) (by kernel_rfl) (by kernel_rfl) (by kernel_rfl) (by intro _ _ _ h; exact h) (Or.inr ⟨by go_simp, rfl⟩) Hb.out ?_
                          try go_frame
                          refine wpAnyH_take (i := 22) (by simp only [List.getElem?_toArray, List.getElem?_cons_succ, List.getElem?_cons_zero]; rfl) (by kernel_rfl) (by kernel_rfl) (by kernel_rfl) (by intro _ _ _ h; exact h) (Or.inr ⟨by go_simp, rfl⟩) Hb.out ?_
                          refine wpAnyH_take (i := 23) (by simp only [List.getElem?_toArray, List.getElem?_cons_succ, List.getElem?_cons_zero]; rfl) (by kernel_rfl) (by kernel_rfl) (by kernel_rfl) (by intro _ _ _ h; exact h) (Or.inr ⟨by go_simp, rfl⟩) Hb.out ?_
                          try go_frame
                          refine wpAnyH_take (i := 24) (by simp only [List.getElem?_toArray, List.getElem?_cons_succ, List.getElem?_cons_zero]; rfl) (by kernel_rfl) (by kernel_rfl) (by kernel_rfl) (by intro _ _ _ h; exact h) (Or.inr ⟨by go_simp, rfl⟩) Hb.out ?_
                          refine wpAnyH_take (i := 25) (by simp only [List.getElem?_toArray, List.getElem?_cons_succ, List.getElem?_cons_zero]; rfl) (by kernel_rfl) (by kernel_rfl) (by kernel_rfl) (by intro _ _ _ h; exact h) (Or.inr ⟨by go_simp, rfl⟩) Hb.out ?_
                          try go_frame
                          refine wpAnyH_take (i := 26) (by simp only [List.getElem?_toArray, List.getElem?_cons_succ, List.getElem?_cons_zero]; rfl) (by kernel_rfl) (by kernel_rfl) (by kernel_rfl) (by intro _ _ _ h; exact h) (Or.inr ⟨by go_simp, rfl⟩) Hb.out ?_
                          refine wpAnyH_take (i := 27) (by simp only [List.getElem?_toArray, List.getElem?_cons_succ, List.getElem?_cons_zero]; rfl) (by kernel_rfl) (by kernel_rfl) (by kernel_rfl) (by intro _ _ _ h; exact h) (Or.inr ⟨by go_simp, rfl⟩) Hb.out ?_
                          try go_frame
                          refine wpAnyH_take (i := 28) (by simp only [List.getElem?_toArray, List.getElem?_cons_succ, List.getElem?_cons_zero]; rfl) (by kernel_rfl) (by kernel_rfl) (by kernel_rfl) (by intro _ _ _ h; exact h) (Or.inr ⟨by go_simp, rfl⟩) Hb.out ?_
                          refine wpAnyH_take (i := 29) (by simp only [List.getElem?_toArray, List.getElem?_cons_succ, List.getElem?_cons_zero]; rfl) (by kernel_rfl) (by kernel_rfl) (by kernel_rfl) (by intro _ _ _ h; exact h) (Or.inr ⟨by go_simp, rfl⟩) Hb.out ?_
                          try go_frame
                          refine wpAnyH_take (i := 30) (by simp only [List.getElem?_toArray, List.getElem?_cons_succ, List.getElem?_cons_zero]; rfl) (by kernel_rfl) (by kernel_rfl) (by kernel_rfl) (by intro _ _ _ h; exact h) (Or.inr ⟨by go_simp, rfl⟩) Hb.out ?_
                          refine wpAnyH_take (i := 31) (by simp only [List.getElem?_toArray, List.getElem?_cons_succ, List.getElem?_cons_zero]; rfl) (by kernel_rfl) (by kernel_rfl) (by kernel_rfl) (by intro _ _ _ h; exact h) (Or.inr ⟨by go_simp, rfl⟩) Hb.out ?_
                          try go_frame
                          refine wpAnyH_take (i := 32) (by simp only [List.getElem?_toArray, List.getElem?_cons_succ, List.getElem?_cons_zero]; rfl) (by kernel_rfl) (by kernel_rfl) (by kernel_rfl) (by intro _ _ _ h; exact h) (Or.inr ⟨by go_simp, rfl⟩) Hb.out ?_
                          refine wpAnyH_take (i := 33) (by simp only [List.getElem?_toArray, List.getElem?_cons_succ, List.getElem?_cons_zero]; rfl) (by kernel_rfl) (by kernel_rfl) (by kernel_rfl) (by intro _ _ _ h; exact h) (Or.inr ⟨by go_simp, rfl⟩) Hb.out ?_
                          try go_frame
                          refine wpAnyH_take (i := 34) (by simp only [List.getElem?_toArray, List.getElem?_cons_succ, List.getElem?_cons_zero]; rfl) (by kernel_rfl) (by kernel_rfl) (by kernel_rfl) (by intro _ _ _ h; exact h) (Or.inr ⟨by go_simp, rfl⟩) Hb.out ?_
                          refine wpAnyH_take (i := 35) (by simp only [List.getElem?_toArray, List.getElem?_cons_succ, List.getElem?_cons_zero]; rfl) (by kernel_rfl) (by kernel_rfl) (by kernel_rfl) (by intro _ _ _ h; exact h) (Or.inr ⟨by go_simp, rfl⟩) Hb.out ?_
                          try go_frame
                          refine wpAnyH_take (i := 36) (by simp only [List.getElem?_toArray, List.getElem?_cons_succ, List.getElem?_cons_zero]; rfl) (by kernel_rfl) (by kernel_rfl) (by kernel_rfl) (by intro _ _ _ h; exact h) (Or.inr ⟨by go_simp, rfl⟩) Hb.out ?_
                          refine wpAnyH_take (i := 37) (by simp only [List.getElem?_toArray, List.getElem?_cons_succ, List.getElem?_cons_zero]; rfl) (by kernel_rfl) (by kernel_rfl) (by kernel_rfl) (by intro _ _ _ h; exact h) (Or.inr ⟨by go_simp, rfl⟩) Hb.out ?_
                          try go_frame
                          refine wpAnyH_take (i := 38) (by simp only [List.getElem?_toArray, List.getElem?_cons_succ, List.getElem?_cons_zero]; rfl) (by kernel_rfl) (by kernel_rfl) (by kernel_rfl) (by intro _ _ _ h; exact h) (Or.inr ⟨by go_simp, rfl⟩) Hb.out ?_
                          refine wpAnyH_take (i := 39) (by simp only [List.getElem?_toArray, List.getElem?_cons_succ, List.getElem?_cons_zero]; rfl) (by kernel_rfl) (by kernel_rfl) (by kernel_rfl) (by intro _ _ _ h; exact h) (Or.inr ⟨by go_simp, rfl⟩) Hb.out ?_
                          try go_frame
                          refine wpAnyH_take (i := 40) (by simp only [List.getElem?_toArray, List.getElem?_cons_succ, List.getElem?_cons_zero]; rfl) (by kernel_rfl) (by kernel_rfl) (by kernel_rfl) (by intro _ _ _ h; exact h) (Or.inr ⟨by go_simp, rfl⟩) Hb.out ?_
                          refine wpAnyH_take (i := 41) (by simp only [List.getElem?_toArray, List.getElem?_cons_succ, List.getElem?_cons_zero]; rfl) (by kernel_rfl) (by kernel_rfl) (by kernel_rfl) (by intro _ _ _ h; exact h) (Or.inr ⟨by go_simp, rfl⟩) Hb.out ?_
                          try go_frame
                          refine wpAnyH_take (i := 42) (by simp only [List.getElem?_toArray, List.getElem?_cons_succ, List.getElem?_cons_zero]; rfl) (by kernel_rfl) (by kernel_rfl) (by kernel_rfl) (by intro _ _ _ h; exact h) (Or.inr ⟨by go_simp, rfl⟩) Hb.out ?_
                          refine wpAnyH_take (i := 43) (by simp only [List.getElem?_toArray, List.getElem?_cons_succ, List.getElem?_cons_zero]; rfl) (by kernel_rfl) (by kernel_rfl) (by kernel_rfl) (by intro _ _ _ h; exact h) (Or.inl ⟨by rfl, fun w hw => by (obtain ⟨z0, z1, z2, z3⟩ := HC.out w hw; go_simp; try rfl)⟩) Hb.out ?_
                          try go_frame
                          refine wpAnyH_done (by kernel_rfl) ?_ _
                          (go_wp2_with fail; go_meet; case rel => exact ⟨by rw [Hcond.out], HbW.out.trans (Hb.out.mono hBw)⟩)
                        · have hq1 : ((i : Int) != (k : Int)) = true := by simp; omega
                          have hqd : decide (i ≠ k) = true := by simp [hik]
                          have hw1 : IntKind.i64.wrap ((k : Int) + 1) = (k : Int) + 1 := IntWalk.i64_in _ (by omega)
                          have hw2 : (0 : Int) ≤ (k : Int) + 1 := by omega
                          have hw3 : ((k : Int) + 1).toNat = k + 1 := by omega
                          clear hik
                          by_cases hmem : xk.mem.contains hdI = true
                          · have Hdep : Hid (depthOf [xk] hdI = 1) := by show _ = _; rw [Hdepv.out, if_pos hmem]
                            by_cases hp0 : p < 0
                            · have hq2 : decide (p < 0) = true := by simp [hp0]
                              have Hcond : Hid (cnd = true) := by show _ = _; rw [HcndE.out, HcondV.out, hqd, hmem, hq2]; rfl
                              clear hmem hp0 hqd
                              refine wpAnyH_take (i := 0) (by simp only [List.getElem?_toArray, List.getElem?_cons_zero]; rfl) (by kernel_rfl) (by kernel_rfl) (by kernel_rfl) (by intro _ _ _ h; exact h) (Or.inl ⟨by rfl, fun w hw => by (obtain ⟨z0, z1, z2, z3⟩ := HC.out w hw; go_simp; try rfl)⟩) Hb.out ?_
                              refine wpAnyH_take (i := 1) (by simp only [List.getElem?_toArray, List.getElem?_cons_succ, List.getElem?_cons_zero]; rfl) (by kernel_rfl) (by kernel_rfl) (by kernel_rfl) (by intro _ _ _ h; exact h) (Or.inl ⟨by rfl, fun w hw => by (obtain ⟨z0, z1, z2, z3⟩ := HC.out w hw; go_simp; try rfl)⟩) Hb.out ?_
                              try go_frame
                              refine wpAnyH_take (i := 2) (by simp only [List.getElem?_toArray, List.getElem?_cons_succ, List.getElem?_cons_zero]; rfl) (by kernel_rfl) (by kernel_rfl) (by kernel_rfl) (by intro _ _ _ h; exact h) (Or.inl ⟨by rfl, fun w hw => by (obtain ⟨z0, z1, z2, z3⟩ := HC.out w hw; go_simp; try rfl)⟩) Hb.out ?_
                              refine wpAnyH_take (i := 3) (by simp only [List.getElem?_toArray, List.getElem?_cons_succ, List.getElem?_cons_zero]; rfl) (by kernel_rfl) (by kernel_rfl) (by kernel_rfl) (by intro _ _ _ h; exact h) (Or.inl ⟨by rfl, fun w hw => by (obtain ⟨z0, z1, z2, z3⟩ := HC.out w hw; go_simp; try rfl)⟩) Hb.out ?_
                              try go_frame
                              refine wpAnyH_take (i := 4) (by simp only [List.getElem?_toArray, List.getElem?_cons_succ, List.getElem?_cons_zero]; rfl) (by kernel_rfl) (by kernel_rfl) (by kernel_rfl) (by intro _ _ _ h; exact h) (Or.inl ⟨by go_simp, fun w hw => by (obtain ⟨z0, z1, z2, z3⟩ := HC.out w hw; go_simp; try rfl)⟩) Hb.out ?_
                              refine wpAnyH_take (i := 5) (by simp only [List.getElem?_toArray, List.getElem?_cons_succ, List.getElem?_cons_zero]; rfl) (by kernel_rfl) (by kernel_rfl) (by kernel_rfl) (by intro _ _ _ h; exact h) (Or.inl ⟨by go_simp, fun w hw => by (obtain ⟨z0, z1, z2, z3⟩ := HC.out w hw; go_simp; try rfl)⟩) Hb.out ?_
                              try go_frame
                              refine wpAnyH_take (i := 6) (by simp only [List.getElem?_toArray, List.getElem?_cons_succ, List.getElem?_cons_zero]; rfl) (by kernel_rfl) (by kernel_rfl) (by kernel_rfl) (by intro _ _ _ h; exact h) (Or.inl ⟨by go_simp, fun w hw => by (obtain ⟨z0, z1, z2, z3⟩ := HC.out w hw; go_simp; try rfl)⟩) Hb.out ?_
                              refine wpAnyH_take (i := 7) (by simp only [List.getElem?_toArray, List.getElem?_cons_succ, List.getElem?_cons_zero]; rfl) (by kernel_rfl) (by kernel_rfl) (by kernel_rfl) (by intro _ _ _ h; exact h) (Or.inl ⟨by go_simp, fun w hw => by (obtain ⟨z0, z1, z2, z3⟩ := HC.out w hw; go_simp; try rfl)⟩) Hb.out ?_
                              try go_frame
                              refine wpAnyH_take (i := 8) (by simp only [List.getElem?_toArray, List.getElem?_cons_succ, List.getElem?_cons_zero]; rfl) (by kernel_rfl) (by kernel_rfl) (by kernel_rfl) (by intro _ _ _ h; exact h) (Or.inl ⟨by go_simp, fun w hw => by (obtain ⟨z0, z1, z2, z3⟩ := HC.out w hw; go_simp; try rfl)⟩) Hb.out ?_
                              refine wpAnyH_take (i := 9) (by simp only [List.getElem?_toArray, List.getElem?_cons_succ, List.getElem?_cons_zero]; rfl) (by kernel_rfl) (by kernel_rfl) (by kernel_rfl) (by intro _ _ _ h; exact h) (Or.inl ⟨by go_simp, fun w hw => by (obtain ⟨z0, z1, z2, z3⟩ := HC.out w hw; go_simp; try rfl)⟩) Hb.out ?_
                              try go_frame
                              refine wpAnyH_take (i := 10) (by simp only [List.getElem?_toArray, List.getElem?_cons_succ, List.getElem?_cons_zero]; rfl) (by kernel_rfl) (by kernel_rfl) (by kernel_rfl) (by intro _ _ _ h; exact h) (Or.inl ⟨by go_simp, fun w hw => by (obtain ⟨z0, z1, z2, z3⟩ := HC.out w hw; go_simp; try rfl)⟩) Hb.out ?_
                              refine wpAnyH_take (i := 11) (by simp only [List.getElem?_toArray, List.getElem?_cons_succ, List.getElem?_cons_zero]; rfl) (by kernel_rfl) (by kernel_rfl) (by kernel_rfl) (by intro _ _ _ h; exact h) (Or.inl ⟨by go_simp, fun w hw => by (obtain ⟨z0, z1, z2, z3⟩ := HC.out w hw; go_simp; try rfl)⟩) Hb.out ?_
                              try go_frame
                              refine wpAnyH_take (i := 12) (by simp only [List.getElem?_toArray, List.getElem?_cons_succ, List.getElem?_cons_zero]; rfl) (by kernel_rfl) (by kernel_rfl) (by kernel_rfl) (by intro _ _ _ h; exact h) (Or.inl ⟨by go_simp, fun w hw => by (obtain ⟨z0, z1, z2, z3⟩ := HC.out w hw; go_simp; try rfl)⟩) Hb.out ?_
                              refine wpAnyH_take (i := 13) (by simp only [List.getElem?_toArray, List.getElem?_cons_succ, List.getElem?_cons_zero]; rfl) (by kernel_rfl) (by kernel_rfl) (by kernel_rfl) (by intro _ _ _ h; exact h) (Or.inl ⟨by go_simp, fun w hw => by (obtain ⟨z0, z1, z2, z3⟩ := HC.out w hw; go_simp; try rfl)⟩) Hb.out ?_
                              try go_frame
                              refine wpAnyH_ready (rs := [14]) (by kernel_rfl) (by simp) ?_
                              refine AllReadyH.cons rfl (fun K hK => ?_) AllReadyH.nil
                              go_simp
                              refine (depth_any _ [xk] hdI _ (HLo.out _ Hb.out)).mono ?_
                              rintro e wD ⟨rfl, hbN⟩
                              dsimp only
                              rw [Hdep.out]
                              refine hK.out _ _ (Hb.out.trans (hbN.mono (Nat.le_trans hB0 Hb.out.size))) (fun _ => ?_)
                              clear hK K
                              have Hb : Hid (Below B0 W0 wD) := Hb.out.trans (hbN.mono (Nat.le_trans hB0 Hb.out.size))
                              clear hbN
                              try go_frame
                              refine wpAnyH_take (i := 15) (by simp only [List.getElem?_toArray, List.getElem?_cons_succ, List.getElem?_cons_zero]; rfl) (by kernel_rfl) (by kernel_rfl) (by kernel_rfl) (by intro _ _ _ h; exact h) (Or.inl ⟨by go_simp, fun w hw => by (obtain ⟨z0, z1, z2, z3⟩ := HC.out w hw; go_simp; try rfl)⟩) Hb.out ?_
                              try go_frame
                              refine wpAnyH_take (i := 16) (by simp only [List.getElem?_toArray, List.getElem?_cons_succ, List.getElem?_cons_zero]; rfl) (by kernel_rfl) (by kernel_rfl) (by kernel_rfl) (by intro _ _ _ h; exact h) (Or.inl ⟨by rfl, fun w hw => by (obtain ⟨z0, z1, z2, z3⟩ := HC.out w hw; go_simp; try rfl)⟩) Hb.out ?_
                              refine wpAnyH_take (i := 17) (by simp only [List.getElem?_toArray, List.getElem?_cons_succ, List.getElem?_cons_zero]; rfl) (by kernel_rfl) (by kernel_rfl) (by kernel_rfl) (by intro _ _ _ h; exact h) (Or.inl ⟨by rfl, fun w hw => by (obtain ⟨z0, z1, z2, z3⟩ := HC.out w hw; go_simp; try rfl)⟩) Hb.out ?_
                              try go_frame
                              refine wpAnyH_take (i := 18) (by simp only [List.getElem?_toArray, List.getElem?_cons_succ, List.getElem?_cons_zero]; rfl) (by kernel_rfl) (by kernel_rfl) (by kernel_rfl) (by intro _ _ _ h; exact h) (Or.inl ⟨by go_simp, fun w hw => by (obtain ⟨z0, z1, z2, z3⟩ := HC.out w hw; go_simp; try rfl)⟩) Hb.out ?_
                              refine wpAnyH_take (i := 19) (by simp only [List.getElem?_toArray, List.getElem?_cons_succ, List.getElem?_cons_zero]; rfl) (by kernel_rfl) (by kernel_rfl) (by kernel_rfl) (by intro _ _ _ h; exact h) (Or.inl ⟨by go_simp, fun w hw => by (obtain ⟨z0, z1, z2, z3⟩ := HC.out w hw; go_simp; try rfl)⟩) Hb.out ?_
                              try go_frame
                              refine wpAnyH_take (i := 20) (by simp only [List.getElem?_toArray, List.getElem?_cons_succ, List.getElem?_cons_zero]; rfl) (by kernel_rfl) (by kernel_rfl) (by kernel_rfl) (by intro _ _ _ h; exact h) (Or.inl ⟨by go_simp, fun w hw => by (obtain ⟨z0, z1, z2, z3⟩ := HC.out w hw; go_simp; try rfl)⟩) Hb.out ?_
                              refine wpAnyH_take (i := 21) (by simp only [List.getElem?_toArray, List.getElem?_cons_succ, List.getElem?_cons_zero]; rfl) (by kernel_rfl) (by kernel_rfl) (by kernel_rfl) (by intro _ _ _ h; exact h) (Or.inl ⟨by go_simp, fun w hw => by (obtain ⟨z0, z1, z2, z3⟩ := HC.out w hw; go_simp; try rfl)⟩) Hb.out ?_
                              try go_frame
                              refine wpAnyH_take (i := 22) (by simp only [List.getElem?_toArray, List.getElem?_cons_succ, List.getElem?_cons_zero]; rfl) (by kernel_rfl) (by kernel_rfl) (by kernel_rfl) (by intro _ _ _ h; exact h) (Or.inl ⟨by go_simp, fun w hw => by (obtain ⟨z0, z1, z2, z3⟩ := HC.out w hw; go_simp; try rfl)⟩) Hb.out ?_
                              refine wpAnyH_take (i := 23) (by simp only [List.getElem?_toArray, List.getElem?_cons_succ, List.getElem?_cons_zero]; rfl) (by kernel_rfl) (by kernel_rfl) (by kernel_rfl) (by intro _ _ _ h; exact h) (Or.inl ⟨by go_simp, fun w hw => by (obtain ⟨z0, z1, z2, z3⟩ := HC.out w hw; go_simp; try rfl)⟩) Hb.out ?_
                              try go_frame
                              refine wpAnyH_take (i := 24) (by simp only [List.getElem?_toArray, List.getElem?_cons_succ, List.getElem?_cons_zero]; rfl) (by kernel_rfl) (by kernel_rfl) (by kernel_rfl) (by intro _ _ _ h; exact h) (Or.inl ⟨by go_simp, fun w hw => by (obtain ⟨z0, z1, z2, z3⟩ := HC.out w hw; go_simp; try rfl)⟩) Hb.out ?_
                              refine wpAnyH_take (i := 25) (by simp only [List.getElem?_toArray, List.getElem?_cons_succ, List.getElem?_cons_zero]; rfl) (by kernel_rfl) (by kernel_rfl) (by kernel_rfl) (by intro _ _ _ h; exact h) (Or.inr ⟨by go_simp, rfl⟩) Hb.out ?_
                              try go_frame
                              refine wpAnyH_take (i := 26) (by simp only [List.getElem?_toArray, List.getElem?_cons_succ, List.getElem?_cons_zero]; rfl) (by kernel_rfl) (by kernel_rfl) (by kernel_rfl) (by intro _ _ _ h; exact h) (Or.inr ⟨by go_simp, rfl⟩) Hb.out ?_
                              refine wpAnyH_take (i := 27) (by simp only [List.getElem?_toArray, List.getElem?_cons_succ, List.getElem?_cons_zero]; rfl) (by kernel_rfl) (by kernel_rfl) (by kernel_rfl) (by intro _ _ _ h; exact h) (Or.inr ⟨by go_simp, rfl⟩) Hb.out ?_
                              try go_frame
                              refine wpAnyH_take (i := 28) (by simp only [List.getElem?_toArray, List.getElem?_cons_succ, List.getElem?_cons_zero]; rfl) (by kernel_rfl) (by kernel_rfl) (by kernel_rfl) (by intro _ _ _ h; exact h) (Or.inr ⟨by go_simp, rfl⟩) Hb.out ?_
                              refine wpAnyH_take (i := 29) (by simp only [List.getElem?_toArray, List.getElem?_cons_succ, List.getElem?_cons_zero]; rfl) (by kernel_rfl) (by kernel_rfl) (by kernel_rfl) (by intro _ _ _ h; exact h) (Or.inr ⟨by go_simp, rfl⟩) Hb.out ?_
                              try go_frame
                              refine wpAnyH_take (i := 30) (by simp only [List.getElem?_toArray, List.getElem?_cons_succ, List.getElem?_cons_zero]; rfl) (by kernel_rfl) (by kernel_rfl) (by kernel_rfl) (by intro _ _ _ h; exact h) (Or.inr ⟨by go_simp, rfl⟩) Hb.out ?_
                              refine wpAnyH_take (i := 31) (by simp only [List.getElem?_toArray, List.getElem?_cons_succ, List.getElem?_cons_zero]; rfl) (by kernel_rfl) (by kernel_rfl) (by kernel_rfl) (by intro _ _ _ h; exact h) (Or.inr ⟨by go_simp, rfl⟩) Hb.out ?_
                              try go_frame
                              refine wpAnyH_take (i := 32) (by simp only [List.getElem?_toArray, List.getElem?_cons_succ, List.getElem?_cons_zero]; rfl) (by kernel_rfl) (by kernel_rfl) (by kernel_rfl) (by intro _ _ _ h; exact h) (Or.inr ⟨by go_simp, rfl⟩) Hb.out ?_
                              refine wpAnyH_take (i := 33) (by simp only [List.getElem?_toArray, List.getElem?_cons_succ, List.getElem?_cons_zero]; rfl) (by kernel_rfl) (by kernel_rfl) (by kernel_rfl) (by intro _ _ _ h; exact h) (Or.inr ⟨by go_simp, rfl⟩) Hb.out ?_
                              try go_frame
                              refine wpAnyH_take (i := 34) (by simp only [List.getElem?_toArray, List.getElem?_cons_succ, List.getElem?_cons_zero]; rfl) (by kernel_rfl) (by kernel_rfl) (by kernel_rfl) (by intro _ _ _ h; exact h) (Or.inr ⟨by go_simp, rfl⟩) Hb.out ?_
                              refine wpAnyH_take (i := 35) (by simp only [List.getElem?_toArray, List.getElem?_cons_succ, List.getElem?_cons_zero]; rfl) (by kernel_rfl) (by kernel_rfl) (by kernel_rfl) (by intro _ _ _ h; exact h) (Or.inr ⟨by go_simp, rfl⟩) Hb.out ?_
                              try go_frame
                              refine wpAnyH_take (i := 36) (by simp only [List.getElem?_toArray, List.getElem?_cons_succ, List.getElem?_cons_zero]; rfl) (by kernel_rfl) (by kernel_rfl) (by kernel_rfl) (by intro _ _ _ h; exact h) (Or.inr ⟨by go_simp, rfl⟩) Hb.out ?_
                              refine wpAnyH_take (i := 37) (by simp only [List.getElem?_toArray, List.getElem?_cons_succ, List.getElem?_cons_zero]; rfl) (by kernel_rfl) (by kernel_rfl) (by kernel_rfl) (by intro _ _ _ h; exact h) (Or.inr ⟨by go_simp, rfl⟩) Hb.out ?_
                              try go_frame
                              refine wpAnyH_take (i := 38) (by simp only [List.getElem?_toArray, List.getElem?_cons_succ, List.getElem?_cons_zero]; rfl) (by kernel_rfl) (by kernel_rfl) (by kernel_rfl) (by intro _ _ _ h; exact h) (Or.inr ⟨by go_simp, rfl⟩) Hb.out ?_
                              refine wpAnyH_take (i := 39) (by simp only [List.getElem?_toArray, List.getElem?_cons_succ, List.getElem?_cons_zero]; rfl) (by kernel_rfl) (by kernel_rfl) (by kernel_rfl) (by intro _ _ _ h; exact h) (Or.inr ⟨by go_simp, rfl⟩) Hb.out ?_
                              try go_frame
                              refine wpAnyH_take (i := 40) (by simp only [List.getElem?_toArray, List.getElem?_cons_succ, List.getElem?_cons_zero]; rfl) (by kernel_rfl) (by kernel_rfl) (by kernel_rfl) (by intro _ _ _ h; exact h) (Or.inr ⟨by go_simp, rfl⟩) Hb.out ?_
                              refine wpAnyH_take (i := 41) (by simp only [List.getElem?_toArray, List.getElem?_cons_succ, List.getElem?_cons_zero]; rfl) (by kernel_rfl) (by kernel_rfl) (by kernel_rfl) (by intro _ _ _ h; exact h) (Or.inr ⟨by go_simp, rfl⟩) Hb.out ?_
                              try go_frame
                              refine wpAnyH_take (i := 42) (by simp only [List.getElem?_toArray, List.getElem?_cons_succ, List.getElem?_cons_zero]; rfl) (by kernel_rfl) (by kernel_rfl) (by kernel_rfl) (by intro _ _ _ h; exact h) (Or.inl ⟨by go_simp, fun w hw => by (obtain ⟨z0, z1, z2, z3⟩ := HC.out w hw; go_simp; try rfl)⟩) Hb.out ?_
                              refine wpAnyH_take (i := 43) (by simp only [List.getElem?_toArray, List.getElem?_cons_succ, List.getElem?_cons_zero]; rfl) (by kernel_rfl) (by kernel_rfl) (by kernel_rfl) (by intro _ _ _ h; exact h) (Or.inl ⟨by rfl, fun w hw => by (obtain ⟨z0, z1, z2, z3⟩ := HC.out w hw; go_simp; try rfl)⟩) Hb.out ?_
                              try go_frame
                              refine wpAnyH_done (by kernel_rfl) ?_ _
                              (go_wp2_with fail; go_meet; case rel => exact ⟨by rw [Hcond.out], HbW.out.trans (Hb.out.mono hBw)⟩)
                            · have hq2 : decide (p < 0) = false := by simp; omega
                              obtain rfl : p = (pn : Int) := hpz (by omega)
                              have hc2 : cnd = decide (nmk < nmp) := by
                                rw [HcndE.out, HcondV.out, hqd, hmem, hq2, Int.toNat_natCast, Hnp.out.1, Hnp.out.2.1, Hnp.out.2.2]; rfl
                              have Hcond : Hid (cnd = decide (nmk < nmp)) := hc2
                              clear hmem hp0 hqd hc2
                              refine wpAnyH_take (i := 0) (by simp only [List.getElem?_toArray, List.getElem?_cons_zero]; rfl) (by kernel_rfl) (by kernel_rfl) (by kernel_rfl) (by intro _ _ _ h; exact h) (Or.inl ⟨by rfl, fun w hw => by (obtain ⟨z0, z1, z2, z3⟩ := HC.out w hw; go_simp; try rfl)⟩) Hb.out ?_
                              refine wpAnyH_take (i := 1) (by simp only [List.getElem?_toArray, List.getElem?_cons_succ, List.getElem?_cons_zero]; rfl) (by kernel_rfl) (by kernel_rfl) (by kernel_rfl) (by intro _ _ _ h; exact h) (Or.inl ⟨by rfl, fun w hw => by (obtain ⟨z0, z1, z2, z3⟩ := HC.out w hw; go_simp; try rfl)⟩) Hb.out ?_
                              try go_frame
                              refine wpAnyH_take (i := 2) (by simp only [List.getElem?_toArray, List.getElem?_cons_succ, List.getElem?_cons_zero]; rfl) (by kernel_rfl) (by kernel_rfl) (by kernel_rfl) (by intro _ _ _ h; exact h) (Or.inl ⟨by rfl, fun w hw => by (obtain ⟨z0, z1, z2, z3⟩ := HC.out w hw; go_simp; try rfl)⟩) Hb.out ?_
                              refine wpAnyH_take (i := 3) (by simp only [List.getElem?_toArray, List.getElem?_cons_succ, List.getElem?_cons_zero]; rfl) (by kernel_rfl) (by kernel_rfl) (by kernel_rfl) (by intro _ _ _ h; exact h) (Or.inl ⟨by rfl, fun w hw => by (obtain ⟨z0, z1, z2, z3⟩ := HC.out w hw; go_simp; try rfl)⟩) Hb.out ?_
                              try go_frame
                              refine wpAnyH_take (i := 4) (by simp only [List.getElem?_toArray, List.getElem?_cons_succ, List.getElem?_cons_zero]; rfl) (by kernel_rfl) (by kernel_rfl) (by kernel_rfl) (by intro _ _ _ h; exact h) (Or.inl ⟨by go_simp, fun w hw => by (obtain ⟨z0, z1, z2, z3⟩ := HC.out w hw; go_simp; try rfl)⟩) Hb.out ?_
                              refine wpAnyH_take (i := 5) (by simp only [List.getElem?_toArray, List.getElem?_cons_succ, List.getElem?_cons_zero]; rfl) (by kernel_rfl) (by kernel_rfl) (by kernel_rfl) (by intro _ _ _ h; exact h) (Or.inl ⟨by go_simp, fun w hw => by (obtain ⟨z0, z1, z2, z3⟩ := HC.out w hw; go_simp; try rfl)⟩) Hb.out ?_
                              try go_frame
                              refine wpAnyH_take (i := 6) (by simp only [List.getElem?_toArray, List.getElem?_cons_succ, List.getElem?_cons_zero]; rfl) (by kernel_rfl) (by kernel_rfl) (by kernel_rfl) (by intro _ _ _ h; exact h) (Or.inl ⟨by go_simp, fun w hw => by (obtain ⟨z0, z1, z2, z3⟩ := HC.out w hw; go_simp; try rfl)⟩) Hb.out ?_
                              refine wpAnyH_take (i := 7) (by simp only [List.getElem?_toArray, List.getElem?_cons_succ, List.getElem?_cons_zero]; rfl) (by kernel_rfl) (by kernel_rfl) (by kernel_rfl) (by intro _ _ _ h; exact h) (Or.inl ⟨by go_simp, fun w hw => by (obtain ⟨z0, z1, z2, z3⟩ := HC.out w hw; go_simp; try rfl)⟩) Hb.out ?_
                              try go_frame
                              refine wpAnyH_take (i := 8) (by simp only [List.getElem?_toArray, List.getElem?_cons_succ, List.getElem?_cons_zero]; rfl) (by kernel_rfl) (by kernel_rfl) (by kernel_rfl) (by intro _ _ _ h; exact h) (Or.inl ⟨by go_simp, fun w hw => by (obtain ⟨z0, z1, z2, z3⟩ := HC.out w hw; go_simp; try rfl)⟩) Hb.out ?_
                              refine wpAnyH_take (i := 9) (by simp only [List.getElem?_toArray, List.getElem?_cons_succ, List.getElem?_cons_zero]; rfl) (by kernel_rfl) (by kernel_rfl) (by kernel_rfl) (by intro _ _ _ h; exact h) (Or.inl ⟨by go_simp, fun w hw => by (obtain ⟨z0, z1, z2, z3⟩ := HC.out w hw; go_simp; try rfl)⟩) Hb.out ?_
                              try go_frame
                              refine wpAnyH_take (i := 10) (by simp only [List.getElem?_toArray, List.getElem?_cons_succ, List.getElem?_cons_zero]; rfl) (by kernel_rfl) (by kernel_rfl) (by kernel_rfl) (by intro _ _ _ h; exact h) (Or.inl ⟨by go_simp, fun w hw => by (obtain ⟨z0, z1, z2, z3⟩ := HC.out w hw; go_simp; try rfl)⟩) Hb.out ?_
                              refine wpAnyH_take (i := 11) (by simp only [List.getElem?_toArray, List.getElem?_cons_succ, List.getElem?_cons_zero]; rfl) (by kernel_rfl) (by kernel_rfl) (by kernel_rfl) (by intro _ _ _ h; exact h) (Or.inl ⟨by go_simp, fun w hw => by (obtain ⟨z0, z1, z2, z3⟩ := HC.out w hw; go_simp; try rfl)⟩) Hb.out ?_
                              try go_frame
                              refine wpAnyH_take (i := 12) (by simp only [List.getElem?_toArray, List.getElem?_cons_succ, List.getElem?_cons_zero]; rfl) (by kernel_rfl) (by kernel_rfl) (by kernel_rfl) (by intro _ _ _ h; exact h) (Or.inl ⟨by go_simp, fun w hw => by (obtain ⟨z0, z1, z2, z3⟩ := HC.out w hw; go_simp; try rfl)⟩) Hb.out ?_
                              refine wpAnyH_take (i := 13) (by simp only [List.getElem?_toArray, List.getElem?_cons_succ, List.getElem?_cons_zero]; rfl) (by kernel_rfl) (by kernel_rfl) (by kernel_rfl) (by intro _ _ _ h; exact h) (Or.inl ⟨by go_simp, fun w hw => by (obtain ⟨z0, z1, z2, z3⟩ := HC.out w hw; go_simp; try rfl)⟩) Hb.out ?_
                              try go_frame
                              refine wpAnyH_ready (rs := [14]) (by kernel_rfl) (by simp) ?_
                              refine AllReadyH.cons rfl (fun K hK => ?_) AllReadyH.nil
                              go_simp
                              refine (depth_any _ [xk] hdI _ (HLo.out _ Hb.out)).mono ?_
                              rintro e wD ⟨rfl, hbN⟩
                              dsimp only
                              rw [Hdep.out]
                              refine hK.out _ _ (Hb.out.trans (hbN.mono (Nat.le_trans hB0 Hb.out.size))) (fun _ => ?_)
                              clear hK K
                              have Hb : Hid (Below B0 W0 wD) := Hb.out.trans (hbN.mono (Nat.le_trans hB0 Hb.out.size))
                              clear hbN
                              try go_frame
                              refine wpAnyH_take (i := 15) (by simp only [List.getElem?_toArray, List.getElem?_cons_succ, List.getElem?_cons_zero]; rfl) (by kernel_rfl) (by kernel_rfl) (by kernel_rfl) (by intro _ _ _ h; exact h) (Or.inl ⟨by go_simp, fun w hw => by (obtain ⟨z0, z1, z2, z3⟩ := HC.out w hw; go_simp; try rfl)⟩) Hb.out ?_
                              try go_frame
                              refine wpAnyH_take (i := 16) (by simp only [List.getElem?_toArray, List.getElem?_cons_succ, List.getElem?_cons_zero]; rfl) (by kernel_rfl) (by kernel_rfl) (by kernel_rfl) (by intro _ _ _ h; exact h) (Or.inl ⟨by rfl, fun w hw => by (obtain ⟨z0, z1, z2, z3⟩ := HC.out w hw; go_simp; try rfl)⟩) Hb.out ?_
                              refine wpAnyH_take (i := 17) (by simp only [List.getElem?_toArray, List.getElem?_cons_succ, List.getElem?_cons_zero]; rfl) (by kernel_rfl) (by kernel_rfl) (by kernel_rfl) (by intro _ _ _ h; exact h) (Or.inl ⟨by rfl, fun w hw => by (obtain ⟨z0, z1, z2, z3⟩ := HC.out w hw; go_simp; try rfl)⟩) Hb.out ?_
                              try go_frame
                              refine wpAnyH_take (i := 18) (by simp only [List.getElem?_toArray, List.getElem?_cons_succ, List.getElem?_cons_zero]; rfl) (by kernel_rfl) (by kernel_rfl) (by kernel_rfl) (by intro _ _ _ h; exact h) (Or.inl ⟨by go_simp, fun w hw => by (obtain ⟨z0, z1, z2, z3⟩ := HC.out w hw; go_simp; try rfl)⟩) Hb.out ?_
                              refine wpAnyH_take (i := 19) (by simp only [List.getElem?_toArray, List.getElem?_cons_succ, List.getElem?_cons_zero]; rfl) (by kernel_rfl) (by kernel_rfl) (by kernel_rfl) (by intro _ _ _ h; exact h) (Or.inl ⟨by go_simp, fun w hw => by (obtain ⟨z0, z1, z2, z3⟩ := HC.out w hw; go_simp; try rfl)⟩) Hb.out ?_
                              try go_frame
                              refine wpAnyH_take (i := 20) (by simp only [List.getElem?_toArray, List.getElem?_cons_succ, List.getElem?_cons_zero]; rfl) (by kernel_rfl) (by kernel_rfl) (by kernel_rfl) (by intro _ _ _ h; exact h) (Or.inl ⟨by go_simp, fun w hw => by (obtain ⟨z0, z1, z2, z3⟩ := HC.out w hw; go_simp; try rfl)⟩) Hb.out ?_
                              refine wpAnyH_take (i := 21) (by simp only [List.getElem?_toArray, List.getElem?_cons_succ, List.getElem?_cons_zero]; rfl) (by kernel_rfl) (by kernel_rfl) (by kernel_rfl) (by intro _ _ _ h; exact h) (Or.inl ⟨by go_simp, fun w hw => by (obtain ⟨z0, z1, z2, z3⟩ := HC.out w hw; go_simp; try rfl)⟩) Hb.out ?_
                              try go_frame
                              refine wpAnyH_take (i := 22) (by simp only [List.getElem?_toArray, List.getElem?_cons_succ, List.getElem?_cons_zero]; rfl) (by kernel_rfl) (by kernel_rfl) (by kernel_rfl) (by intro _ _ _ h; exact h) (Or.inl ⟨by go_simp, fun w hw => by (obtain ⟨z0, z1, z2, z3⟩ := HC.out w hw; go_simp; try rfl)⟩) Hb.out ?_
                              refine wpAnyH_take (i := 23) (by simp only [List.getElem?_toArray, List.getElem?_cons_succ, List.getElem?_cons_zero]; rfl) (by kernel_rfl) (by kernel_rfl) (by kernel_rfl) (by intro _ _ _ h; exact h) (Or.inl ⟨by go_simp, fun w hw => by (obtain ⟨z0, z1, z2, z3⟩ := HC.out w hw; go_simp; try rfl)⟩) Hb.out ?_
                              try go_frame
                              refine wpAnyH_take (i := 24) (by simp only [List.getElem?_toArray, List.getElem?_cons_succ, List.getElem?_cons_zero]; rfl) (by kernel_rfl) (by kernel_rfl) (by kernel_rfl) (by intro _ _ _ h; exact h) (Or.inl ⟨by go_simp, fun w hw => by (obtain ⟨z0, z1, z2, z3⟩ := HC.out w hw; go_simp; try rfl)⟩) Hb.out ?_
                              refine wpAnyH_take (i := 25) (by simp only [List.getElem?_toArray, List.getElem?_cons_succ, List.getElem?_cons_zero]; rfl) (by kernel_rfl) (by kernel_rfl) (by kernel_rfl) (by intro _ _ _ h; exact h) (Or.inl ⟨by go_simp, fun w hw => by (obtain ⟨z0, z1, z2, z3⟩ := HC.out w hw; go_simp; try rfl)⟩) Hb.out ?_
                              try go_frame
                              refine wpAnyH_take (i := 26) (by simp only [List.getElem?_toArray, List.getElem?_cons_succ, List.getElem?_cons_zero]; rfl) (by kernel_rfl) (by kernel_rfl) (by kernel_rfl) (by intro _ _ _ h; exact h) (Or.inl ⟨by go_simp, fun w hw => by (obtain ⟨z0, z1, z2, z3⟩ := HC.out w hw; go_simp; try rfl)⟩) Hb.out ?_
                              refine wpAnyH_take (i := 27) (by simp only [List.getElem?_toArray, List.getElem?_cons_succ, List.getElem?_cons_zero]; rfl) (by kernel_rfl) (by kernel_rfl) (by kernel_rfl) (by intro _ _ _ h; exact h) (Or.inl ⟨by go_simp, fun w hw => by (obtain ⟨z0, z1, z2, z3⟩ := HC.out w hw; go_simp; try rfl)⟩) Hb.out ?_
                              try go_frame
                              refine wpAnyH_take (i := 28) (by simp only [List.getElem?_toArray, List.getElem?_cons_succ, List.getElem?_cons_zero]; rfl) (by kernel_rfl) (by kernel_rfl) (by kernel_rfl) (by intro _ _ _ h; exact h) (Or.inl ⟨by go_simp, fun w hw => by (obtain ⟨z0, z1, z2, z3⟩ := HC.out w hw; go_simp; try rfl)⟩) Hb.out ?_
                              refine wpAnyH_take (i := 29) (by simp only [List.getElem?_toArray, List.getElem?_cons_succ, List.getElem?_cons_zero]; rfl) (by kernel_rfl) (by kernel_rfl) (by kernel_rfl) (by intro _ _ _ h; exact h) (Or.inl ⟨by go_simp, fun w hw => by (obtain ⟨z0, z1, z2, z3⟩ := HC.out w hw; go_simp; try rfl)⟩) Hb.out ?_
                              try go_frame
                              refine wpAnyH_take (i := 30) (by simp only [List.getElem?_toArray, List.getElem?_cons_succ, List.getElem?_cons_zero]; rfl) (by kernel_rfl) (by kernel_rfl) (by kernel_rfl) (by intro _ _ _ h; exact h) (Or.inl ⟨by go_simp, fun w hw => by (obtain ⟨z0, z1, z2, z3⟩ := HC.out w hw; go_simp; try rfl)⟩) Hb.out ?_
                              refine wpAnyH_take (i := 31) (by simp only [List.getElem?_toArray, List.getElem?_cons_succ, List.getElem?_cons_zero]; rfl) (by kernel_rfl) (by kernel_rfl) (by kernel_rfl) (by intro _ _ _ h; exact h) (Or.inl ⟨by go_simp, fun w hw => by (obtain ⟨z0, z1, z2, z3⟩ := HC.out w hw; go_simp; try rfl)⟩) Hb.out ?_
                              try go_frame
                              refine wpAnyH_take (i := 32) (by simp only [List.getElem?_toArray, List.getElem?_cons_succ, List.getElem?_cons_zero]; rfl) (by kernel_rfl) (by kernel_rfl) (by kernel_rfl) (by intro _ _ _ h; exact h) (Or.inl ⟨by go_simp, fun w hw => by (obtain ⟨z0, z1, z2, z3⟩ := HC.out w hw; go_simp; try rfl)⟩) Hb.out ?_
                              refine wpAnyH_take (i := 33) (by simp only [List.getElem?_toArray, List.getElem?_cons_succ, List.getElem?_cons_zero]; rfl) (by kernel_rfl) (by kernel_rfl) (by kernel_rfl) (by intro _ _ _ h; exact h) (Or.inl ⟨by go_simp, fun w hw => by (obtain ⟨z0, z1, z2, z3⟩ := HC.out w hw; go_simp; try rfl)⟩) Hb.out ?_
                              try go_frame
                              refine wpAnyH_take (i := 34) (by simp only [List.getElem?_toArray, List.getElem?_cons_succ, List.getElem?_cons_zero]; rfl) (by kernel_rfl) (by kernel_rfl) (by kernel_rfl) (by intro _ _ _ h; exact h) (Or.inl ⟨by go_simp, fun w hw => by (obtain ⟨z0, z1, z2, z3⟩ := HC.out w hw; go_simp; try rfl)⟩) Hb.out ?_
                              refine wpAnyH_take (i := 35) (by simp only [List.getElem?_toArray, List.getElem?_cons_succ, List.getElem?_cons_zero]; rfl) (by kernel_rfl) (by kernel_rfl) (by kernel_rfl) (by intro _ _ _ h; exact h) (Or.inl ⟨by go_simp, fun w hw => by (obtain ⟨z0, z1, z2, z3⟩ := HC.out w hw; go_simp; try rfl)⟩) Hb.out ?_
                              try go_frame
                              refine wpAnyH_take (i := 36) (by simp only [List.getElem?_toArray, List.getElem?_cons_succ, List.getElem?_cons_zero]; rfl) (by kernel_rfl) (by kernel_rfl) (by kernel_rfl) (by intro _ _ _ h; exact h) (Or.inl ⟨by go_simp, fun w hw => by (obtain ⟨z0, z1, z2, z3⟩ := HC.out w hw; go_simp; try rfl)⟩) Hb.out ?_
                              refine wpAnyH_take (i := 37) (by simp only [List.getElem?_toArray, List.getElem?_cons_succ, List.getElem?_cons_zero]; rfl) (by kernel_rfl) (by kernel_rfl) (by kernel_rfl) (by intro _ _ _ h; exact h) (Or.inl ⟨by go_simp, fun w hw => by (obtain ⟨z0, z1, z2, z3⟩ := HC.out w hw; go_simp; try rfl)⟩) Hb.out ?_
                              try go_frame
                              refine wpAnyH_take (i := 38) (by simp only [List.getElem?_toArray, List.getElem?_cons_succ, List.getElem?_cons_zero]; rfl) (by kernel_rfl) (by kernel_rfl) (by kernel_rfl) (by intro _ _ _ h; exact h) (Or.inl ⟨by go_simp, fun w hw => by (obtain ⟨z0, z1, z2, z3⟩ := HC.out w hw; go_simp; try rfl)⟩) Hb.out ?_
                              refine wpAnyH_take (i := 39) (by simp only [List.getElem?_toArray, List.getElem?_cons_succ, List.getElem?_cons_zero]; rfl) (by kernel_rfl) (by kernel_rfl) (by kernel_rfl) (by intro _ _ _ h; exact h) (Or.inl ⟨by go_simp, fun w hw => by (obtain ⟨z0, z1, z2, z3⟩ := HC.out w hw; go_simp; try rfl)⟩) Hb.out ?_
                              try go_frame
                              refine wpAnyH_take (i := 40) (by simp only [List.getElem?_toArray, List.getElem?_cons_succ, List.getElem?_cons_zero]; rfl) (by kernel_rfl) (by kernel_rfl) (by kernel_rfl) (by intro _ _ _ h; exact h) (Or.inl ⟨by go_simp, fun w hw => by (obtain ⟨z0, z1, z2, z3⟩ := HC.out w hw; go_simp; try rfl)⟩) Hb.out ?_
                              refine wpAnyH_take (i := 41) (by simp only [List.getElem?_toArray, List.getElem?_cons_succ, List.getElem?_cons_zero]; rfl) (by kernel_rfl) (by kernel_rfl) (by kernel_rfl) (by intro _ _ _ h; exact h) (Or.inl ⟨by go_simp, fun w hw => by (obtain ⟨z0, z1, z2, z3⟩ := HC.out w hw; go_simp; try rfl)⟩) Hb.out ?_
                              try go_frame
                              refine wpAnyH_take (i := 42) (by simp only [List.getElem?_toArray, List.getElem?_cons_succ, List.getElem?_cons_zero]; rfl) (by kernel_rfl) (by kernel_rfl) (by kernel_rfl) (by intro _ _ _ h; exact h) (Or.inl ⟨by go_simp, fun w hw => by (obtain ⟨z0, z1, z2, z3⟩ := HC.out w hw; go_simp; try rfl)⟩) Hb.out ?_
                              refine wpAnyH_take (i := 43) (by simp only [List.getElem?_toArray, List.getElem?_cons_succ, List.getElem?_cons_zero]; rfl) (by kernel_rfl) (by kernel_rfl) (by kernel_rfl) (by intro _ _ _ h; exact h) (Or.inl ⟨by rfl, fun w hw => by (obtain ⟨z0, z1, z2, z3⟩ := HC.out w hw; go_simp; try rfl)⟩) Hb.out ?_
                              try go_frame
                              refine wpAnyH_done (by kernel_rfl) ?_ _
                              (go_wp2_with fail; go_meet; case rel => exact ⟨by rw [Hcond.out], HbW.out.trans (Hb.out.mono hBw)⟩)
                          · have Hdep : Hid (depthOf [xk] hdI = 0) := by show _ = _; rw [Hdepv.out, if_neg hmem]
                            have hmf : xk.mem.contains hdI = false := by simpa using hmem
                            have Hcond : Hid (cnd = false) := by show _ = _; rw [HcndE.out, HcondV.out, hmf]; simp
                            clear hmem hmf hqd
                            refine wpAnyH_take (i := 0) (by simp only [List.getElem?_toArray, List.getElem?_cons_zero]; rfl) (by kernel_rfl) (by kernel_rfl) (by kernel_rfl) (by intro _ _ _ h; exact h) (Or.inl ⟨by rfl, fun w hw => by (obtain ⟨z0, z1, z2, z3⟩ := HC.out w hw; go_simp; try rfl)⟩) Hb.out ?_
                            refine wpAnyH_take (i := 1) (by simp only [List.getElem?_toArray, List.getElem?_cons_succ, List.getElem?_cons_zero]; rfl) (by kernel_rfl) (by kernel_rfl) (by kernel_rfl) (by intro _ _ _ h; exact h) (Or.inl ⟨by rfl, fun w hw => by (obtain ⟨z0, z1, z2, z3⟩ := HC.out w hw; go_simp; try rfl)⟩) Hb.out ?_
                            try go_frame
                            refine wpAnyH_take (i := 2) (by simp only [List.getElem?_toArray, List.getElem?_cons_succ, List.getElem?_cons_zero]; rfl) (by kernel_rfl) (by kernel_rfl) (by kernel_rfl) (by intro _ _ _ h; exact h) (Or.inl ⟨by rfl, fun w hw => by (obtain ⟨z0, z1, z2, z3⟩ := HC.out w hw; go_simp; try rfl)⟩) Hb.out ?_
                            refine wpAnyH_take (i := 3) (by simp only [List.getElem?_toArray, List.getElem?_cons_succ, List.getElem?_cons_zero]; rfl) (by kernel_rfl) (by kernel_rfl) (by kernel_rfl) (by intro _ _ _ h; exact h) (Or.inl ⟨by rfl, fun w hw => by (obtain ⟨z0, z1, z2, z3⟩ := HC.out w hw; go_simp; try rfl)⟩) Hb.out ?_
                            try go_frame
                            refine wpAnyH_take (i := 4) (by simp only [List.getElem?_toArray, List.getElem?_cons_succ, List.getElem?_cons_zero]; rfl) (by kernel_rfl) (by kernel_rfl) (by kernel_rfl) (by intro _ _ _ h; exact h) (Or.inl ⟨by go_simp, fun w hw => by (obtain ⟨z0, z1, z2, z3⟩ := HC.out w hw; go_simp; try rfl)⟩) Hb.out ?_
                            refine wpAnyH_take (i := 5) (by simp only [List.getElem?_toArray, List.getElem?_cons_succ, List.getElem?_cons_zero]; rfl) (by kernel_rfl) (by kernel_rfl) (by kernel_rfl) (by intro _ _ _ h; exact h) (Or.inl ⟨by go_simp, fun w hw => by (obtain ⟨z0, z1, z2, z3⟩ := HC.out w hw; go_simp; try rfl)⟩) Hb.out ?_
                            try go_frame
                            refine wpAnyH_take (i := 6) (by simp only [List.getElem?_toArray, List.getElem?_cons_succ, List.getElem?_cons_zero]; rfl) (by kernel_rfl) (by kernel_rfl) (by kernel_rfl) (by intro _ _ _ h; exact h) (Or.inl ⟨by go_simp, fun w hw => by (obtain ⟨z0, z1, z2, z3⟩ := HC.out w hw; go_simp; try rfl)⟩) Hb.out ?_
                            refine wpAnyH_take (i := 7) (by simp only [List.getElem?_toArray, List.getElem?_cons_succ, List.getElem?_cons_zero]; rfl) (by kernel_rfl) (by kernel_rfl) (by kernel_rfl) (by intro _ _ _ h; exact h) (Or.inl ⟨by go_simp, fun w hw => by (obtain ⟨z0, z1, z2, z3⟩ := HC.out w hw; go_simp; try rfl)⟩) Hb.out ?_
                            try go_frame
                            refine wpAnyH_take (i := 8) (by simp only [List.getElem?_toArray, List.getElem?_cons_succ, List.getElem?_cons_zero]; rfl) (by kernel_rfl) (by kernel_rfl) (by kernel_rfl) (by intro _ _ _ h; exact h) (Or.inl ⟨by go_simp, fun w hw => by (obtain ⟨z0, z1, z2, z3⟩ := HC.out w hw; go_simp; try rfl)⟩) Hb.out ?_
                            refine wpAnyH_take (i := 9) (by simp only [List.getElem?_toArray, List.getElem?_cons_succ, List.getElem?_cons_zero]; rfl) (by kernel_rfl) (by kernel_rfl) (by kernel_rfl) (by intro _ _ _ h; exact h) (Or.inl ⟨by go_simp, fun w hw => by (obtain ⟨z0, z1, z2, z3⟩ := HC.out w hw; go_simp; try rfl)⟩) Hb.out ?_
                            try go_frame
                            refine wpAnyH_take (i := 10) (by simp only [List.getElem?_toArray, List.getElem?_cons_succ, List.getElem?_cons_zero]; rfl) (by kernel_rfl) (by kernel_rfl) (by kernel_rfl) (by intro _ _ _ h; exact h) (Or.inl ⟨by go_simp, fun w hw => by (obtain ⟨z0, z1, z2, z3⟩ := HC.out w hw; go_simp; try rfl)⟩) Hb.out ?_
                            refine wpAnyH_take (i := 11) (by simp only [List.getElem?_toArray, List.getElem?_cons_succ, List.getElem?_cons_zero]; rfl) (by kernel_rfl) (by kernel_rfl) (by kernel_rfl) (by intro _ _ _ h; exact h) (Or.inl ⟨by go_simp, fun w hw => by (obtain ⟨z0, z1, z2, z3⟩ := HC.out w hw; go_simp; try rfl)⟩) Hb.out ?_
                            try go_frame
                            refine wpAnyH_take (i := 12) (by simp only [List.getElem?_toArray, List.getElem?_cons_succ, List.getElem?_cons_zero]; rfl) (by kernel_rfl) (by kernel_rfl) (by kernel_rfl) (by intro _ _ _ h; exact h) (Or.inl ⟨by go_simp, fun w hw => by (obtain ⟨z0, z1, z2, z3⟩ := HC.out w hw; go_simp; try rfl)⟩) Hb.out ?_
                            refine wpAnyH_take (i := 13) (by simp only [List.getElem?_toArray, List.getElem?_cons_succ, List.getElem?_cons_zero]; rfl) (by kernel_rfl) (by kernel_rfl) (by kernel_rfl) (by intro _ _ _ h; exact h) (Or.inl ⟨by go_simp, fun w hw => by (obtain ⟨z0, z1, z2, z3⟩ := HC.out w hw; go_simp; try rfl)⟩) Hb.out ?_
                            try go_frame
                            refine wpAnyH_ready (rs := [14]) (by kernel_rfl) (by simp) ?_
                            refine AllReadyH.cons rfl (fun K hK => ?_) AllReadyH.nil
                            go_simp
                            refine (depth_any _ [xk] hdI _ (HLo.out _ Hb.out)).mono ?_
                            rintro e wD ⟨rfl, hbN⟩
                            dsimp only
                            rw [Hdep.out]
                            refine hK.out _ _ (Hb.out.trans (hbN.mono (Nat.le_trans hB0 Hb.out.size))) (fun _ => ?_)
                            clear hK K
                            have Hb : Hid (Below B0 W0 wD) := Hb.out.trans (hbN.mono (Nat.le_trans hB0 Hb.out.size))
                            clear hbN
                            try go_frame
                            refine wpAnyH_take (i := 15) (by simp only [List.getElem?_toArray, List.getElem?_cons_succ, List.getElem?_cons_zero]; rfl) (by kernel_rfl) (by kernel_rfl) (by kernel_rfl) (by intro _ _ _ h; exact h) (Or.inl ⟨by go_simp, fun w hw => by (obtain ⟨z0, z1, z2, z3⟩ := HC.out w hw; go_simp; try rfl)⟩) Hb.out ?_
                            try go_frame
                            refine wpAnyH_take (i := 16) (by simp only [List.getElem?_toArray, List.getElem?_cons_succ, List.getElem?_cons_zero]; rfl) (by kernel_rfl) (by kernel_rfl) (by kernel_rfl) (by intro _ _ _ h; exact h) (Or.inl ⟨by rfl, fun w hw => by (obtain ⟨z0, z1, z2, z3⟩ := HC.out w hw; go_simp; try rfl)⟩) Hb.out ?_
                            refine wpAnyH_take (i := 17) (by simp only [List.getElem?_toArray, List.getElem?_cons_succ, List.getElem?_cons_zero]; rfl) (by kernel_rfl) (by kernel_rfl) (by kernel_rfl) (by intro _ _ _ h; exact h) (Or.inl ⟨by rfl, fun w hw => by (obtain ⟨z0, z1, z2, z3⟩ := HC.out w hw; go_simp; try rfl)⟩) Hb.out ?_
                            try go_frame
                            refine wpAnyH_take (i := 18) (by simp only [List.getElem?_toArray, List.getElem?_cons_succ, List.getElem?_cons_zero]; rfl) (by kernel_rfl) (by kernel_rfl) (by kernel_rfl) (by intro _ _ _ h; exact h) (Or.inr ⟨by go_simp, rfl⟩) Hb.out ?_
                            refine wpAnyH_take (i := 19) (by simp only [List.getElem?_toArray, List.getElem?_cons_succ, List.getElem?_cons_zero]; rfl) (by kernel_rfl) (by kernel_rfl) (by kernel_rfl) (by intro _ _ _ h; exact h) (Or.inr ⟨by go_simp, rfl⟩) Hb.out ?_
                            try go_frame
                            refine wpAnyH_take (i := 20) (by simp only [List.getElem?_toArray, List.getElem?_cons_succ, List.getElem?_cons_zero]; rfl) (by kernel_rfl) (by kernel_rfl) (by kernel_rfl) (by intro _ _ _ h; exact h) (Or.inr ⟨by go_simp, rfl⟩) Hb.out ?_
                            refine wpAnyH_take (i := 21) (by simp only [List.getElem?_toArray, List.getElem?_cons_succ, List.getElem?_cons_zero]; rfl) (by kernel_rfl) (by kernel_rfl) (by kernel_rfl) (by intro _ _ _ h; exact h) (Or.inr ⟨by go_simp, rfl⟩) Hb.out ?_
                            try go_frame
                            refine wpAnyH_take (i := 22) (by simp only [List.getElem?_toArray, List.getElem?_cons_succ, List.getElem?_cons_zero]; rfl) (by kernel_rfl) (by kernel_rfl) (by kernel_rfl) (by intro _ _ _ h; exact h) (Or.inr ⟨by go_simp, rfl⟩) Hb.out ?_
                            refine wpAnyH_take (i := 23) (by simp only [List.getElem?_toArray, List.getElem?_cons_succ, List.getElem?_cons_zero]; rfl) (by kernel_rfl) (by kernel_rfl) (by kernel_rfl) (by intro _ _ _ h; exact h) (Or.inr ⟨by go_simp, rfl⟩) Hb.out ?_
                            try go_frame
                            refine wpAnyH_take (i := 24) (by simp only [List.getElem?_toArray, List.getElem?_cons_succ, List.getElem?_cons_zero]; rfl) (by kernel_rfl) (by kernel_rfl) (by kernel_rfl) (by intro _ _ _ h; exact h) (Or.inr ⟨by go_simp, rfl⟩) Hb.out ?_
                            refine wpAnyH_take (i := 25) (by simp only [List.getElem?_toArray, List.getElem?_cons_succ, List.getElem?_cons_zero]; rfl) (by kernel_rfl) (by kernel_rfl) (by kernel_rfl) (by intro _ _ _ h; exact h) (Or.inr ⟨by go_simp, rfl⟩) Hb.out ?_
                            try go_frame
                            refine wpAnyH_take (i := 26) (by simp only [List.getElem?_toArray, List.getElem?_cons_succ, List.getElem?_cons_zero]; rfl) (by kernel_rfl) (by kernel_rfl) (by kernel_rfl) (by intro _ _ _ h; exact h) (Or.inr ⟨by go_simp, rfl⟩) Hb.out ?_
                            refine wpAnyH_take (i := 27) (by simp only [List.getElem?_toArray, List.getElem?_cons_succ, List.getElem?_cons_zero]; rfl) (by kernel_rfl) (by kernel_rfl) (by kernel_rfl) (by intro _ _ _ h; exact h) (Or.inr ⟨by go_simp, rfl⟩) Hb.out ?_
                            try go_frame
                            refine wpAnyH_take (i := 28) (by simp only [List.getElem?_toArray, List.getElem?_cons_succ, List.getElem?_cons_zero]; rfl) (by kernel_rfl) (by kernel_rfl) (by kernel_rfl) (by intro _ _ _ h; exact h) (Or.inr ⟨by go_simp, rfl⟩) Hb.out ?_
                            refine wpAnyH_take (i := 29) (by simp only [List.getElem?_toArray, List.getElem?_cons_succ, List.getElem?_cons_zero]; rfl) (by kernel_rfl) (by kernel_rfl) (by kernel_rfl) (by intro _ _ _ h; exact h) (Or.inr ⟨by go_simp, rfl⟩) Hb.out ?_
                            try go_frame
                            refine wpAnyH_take (i := 30) (by simp only [List.getElem?_toArray, List.getElem?_cons_succ, List.getElem?_cons_zero]; rfl) (by kernel_rfl) (by kernel_rfl) (by kernel_rfl) (by intro _ _ _ h; exact h) (Or.inr ⟨by go_simp, rfl⟩) Hb.out ?_
                            refine wpAnyH_take (i := 31) (by simp only [List.getElem?_toArray, List.getElem?_cons_succ, List.getElem?_cons_zero]; rfl) (by kernel_rfl) (by kernel_rfl) (by kernel_rfl) (by intro _ _ _ h; exact h) (Or.inr ⟨by go_simp, rfl⟩) Hb.out ?_
                            try go_frame
                            refine wpAnyH_take (i := 32) (by simp only [List.getElem?_toArray, List.getElem?_cons_succ, List.getElem?_cons_zero]; rfl) (by kernel_rfl) (by kernel_rfl) (by kernel_rfl) (by intro _ _ _ h; exact h) (Or.inr ⟨by go_simp, rfl⟩) Hb.out ?_
                            refine wpAnyH_take (i := 33) (by simp only [List.getElem?_toArray, List.getElem?_cons_succ, List.getElem?_cons_zero]; rfl) (by kernel_rfl) (by kernel_rfl) (by kernel_rfl) (by intro _ _ _ h; exact h) (Or.inr ⟨by go_simp, rfl⟩) Hb.out ?_
                            try go_frame
                            refine wpAnyH_take (i := 34) (by simp only [List.getElem?_toArray, List.getElem?_cons_succ, List.getElem?_cons_zero]; rfl) (by kernel_rfl) (by kernel_rfl) (by kernel_rfl) (by intro _ _ _ h; exact h) (Or.inr ⟨by go_simp, rfl⟩) Hb.out ?_
                            refine wpAnyH_take (i := 35) (by simp only [List.getElem?_toArray, List.getElem?_cons_succ, List.getElem?_cons_zero]; rfl) (by kernel_rfl) (by kernel_rfl) (by kernel_rfl) (by intro _ _ _ h; exact h) (Or.inr ⟨by go_simp, rfl⟩) Hb.out ?_
                            try go_frame
                            refine wpAnyH_take (i := 36) (by simp only [List.getElem?_toArray, List.getElem?_cons_succ, List.getElem?_cons_zero]; rfl) (by kernel_rfl) (by kernel_rfl) (by kernel_rfl) (by intro _ _ _ h; exact h) (Or.inr ⟨by go_simp, rfl⟩) Hb.out ?_
                            refine wpAnyH_take (i := 37) (by simp only [List.getElem?_toArray, List.getElem?_cons_succ, List.getElem?_cons_zero]; rfl) (by kernel_rfl) (by kernel_rfl) (by kernel_rfl) (by intro _ _ _ h; exact h) (Or.inr ⟨by go_simp, rfl⟩) Hb.out ?_
                            try go_frame
                            refine wpAnyH_take (i := 38) (by simp only [List.getElem?_toArray, List.getElem?_cons_succ, List.getElem?_cons_zero]; rfl) (by kernel_rfl) (by kernel_rfl) (by kernel_rfl) (by intro _ _ _ h; exact h) (Or.inr ⟨by go_simp, rfl⟩) Hb.out ?_
                            refine wpAnyH_take (i := 39) (by simp only [List.getElem?_toArray, List.getElem?_cons_succ, List.getElem?_cons_zero]; rfl) (by kernel_rfl) (by kernel_rfl) (by kernel_rfl) (by intro _ _ _ h; exact h) (Or.inr ⟨by go_simp, rfl⟩) Hb.out ?_
                            try go_frame
                            refine wpAnyH_take (i := 40) (by simp only [List.getElem?_toArray, List.getElem?_cons_succ, List.getElem?_cons_zero]; rfl) (by kernel_rfl) (by kernel_rfl) (by kernel_rfl) (by intro _ _ _ h; exact h) (Or.inr ⟨by go_simp, rfl⟩) Hb.out ?_
                            refine wpAnyH_take (i := 41) (by simp only [List.getElem?_toArray, List.getElem?_cons_succ, List.getElem?_cons_zero]; rfl) (by kernel_rfl) (by kernel_rfl) (by kernel_rfl) (by intro _ _ _ h; exact h) (Or.inr ⟨by go_simp, rfl⟩) Hb.out ?_
                            try go_frame
                            refine wpAnyH_take (i := 42) (by simp only [List.getElem?_toArray, List.getElem?_cons_succ, List.getElem?_cons_zero]; rfl) (by kernel_rfl) (by kernel_rfl) (by kernel_rfl) (by intro _ _ _ h; exact h) (Or.inr ⟨by go_simp, rfl⟩) Hb.out ?_
                            refine wpAnyH_take (i := 43) (by simp only [List.getElem?_toArray, List.getElem?_cons_succ, List.getElem?_cons_zero]; rfl) (by kernel_rfl) (by kernel_rfl) (by kernel_rfl) (by intro _ _ _ h; exact h) (Or.inl ⟨by rfl, fun w hw => by (obtain ⟨z0, z1, z2, z3⟩ := HC.out w hw; go_simp; try rfl)⟩) Hb.out ?_
                            try go_frame
                            refine wpAnyH_done (by kernel_rfl) ?_ _
                            (go_wp2_with fail; go_meet; case rel => exact ⟨by rw [Hcond.out], HbW.out.trans (Hb.out.mono hBw)⟩)
                      case rest =>
                        obtain ⟨rfl, hbc⟩ := hcut
                        have hQc := HQ.out.1.later hbc
                        have hcp : wc.cell? ⟨g, i * 4 + 1, none⟩ = some (.int .i64 p) := (hbc.cell (p := ⟨g, i * 4 + 1, none⟩) hgs).trans HQ.out.2.2.1
                        have hfz : wc.frozen? ⟨g, i * 4 + 1, none⟩ = false := (hbc.frozen (p := ⟨g, i * 4 + 1, none⟩) hgs).trans HQ.out.2.2.2
                        have hgc : g < wc.heap.size := Nat.lt_of_lt_of_le hgs hbc.size
                        have hstep := stepP_cond ds (inP ds (outP ds nh i) i k) i k
                        rw [← HcndE.out] at hstep
                        have HQc := Lib.hid (And.intro hQc hstep)
                        have HpF := Lib.hid (hQc.put HQ.out.2.1 (k : Int) hgw)
                        clear hbc hQc hstep
                        cases cnd with
                        | true =>
                          go_wp2_with fail
                          go_roundw
                          case rel => exact ⟨k + 1, _, hkn, by go_num, by (have h1 := HQc.out.2; rw [if_pos rfl] at h1; rw [inP, h1]; exact HpF.out)⟩
                          case measure => simp [intOf]; omega
                        | false =>
                          go_wp2_with fail
                          go_roundw
                          case rel => exact ⟨k + 1, L3, hkn, by go_num, by (have h1 := HQc.out.2; rw [if_neg (by simp)] at h1; rw [inP, h1]; exact HQc.out.1)⟩
                          case measure => simp [intOf]; omega
                    · obtain rfl : nh = k := by omega
                      have HQ := Lib.hid hQ
                      clear hQ hkn
                      go_wp2_with fail
                      go_roundw
                      case rel => exact ⟨i + 1, L3, hin', by go_num, HQ.out⟩
                      case measure => simp [intOf]; omega
                · obtain rfl : nh = i := by omega
                  have Hres : Hid (FindIs code L2 0 0) := by
                    refine .inr (.inr (.inr ⟨by rw [← Hn.out]; omega, Hno.out, HA.out.1, rfl, rfl, ?_, ?_⟩))
                    · rw [HP.out.d, HA.out.2.1]
                    · rw [HP.out.par, HA.out.2.1, ← H9.out.2.2]
                  have Hbf : Hid (Below w.heap.size w wr) := by
                    have h1 := H9.out.1.below
                    exact h1.trans (HP.out.below.mono h1.size)
                  have hs9w : w.heap.size ≤ w9.heap.size := H9.out.1.below.size
                  clear hin'
                  go_wp2_with fail
                  go_ret3
                  exact ⟨_, L2, 0, 0, rfl, HP.out.own.mono (Nat.le_refl _) hs9w, Hres.out, Hbf.out⟩
        · intro x w11 cnt' hx8 hx9 hxp hlx hrg11 hlt11 hg11 hs11 hen
          have hS11 : SetAt w11 b8 S := Hi.out.1.kept hg11 (by intro e; have := Option.some.inj e; omega)
          have hkp11 : Keep r b8 W7 w11 := Hi.out.2.2.2.1.grown hg11 (by omega) (fun k e => by cases e; exact .inl (Nat.le_refl _))
          have hgo11 := Hi.out.2.1.nextI hlx
          have hsz11 : r + 1 ≤ w11.heap.size := by omega
          have H11 := Lib.hid (And.intro hrg11 (And.intro hS11 (And.intro hkp11 (And.intro hgo11 (And.intro hlt11 hxp)))))
          clear hrg11 hS11 hkp11 hgo11 hlt11 hg11 hs11 hlx hxp
          go_wp2_with (at_mapUpdate; refine set_put rfl _ _ _ rfl b8 S rfl H11.out.2.1 x rfl rfl ⟨hx8, hx9⟩ (by omega) ?_)
          intro w12 hS12 hg12
          have hkp12 : Keep r b8 W7 w12 := H11.out.2.2.1.grown hg12 (by omega) (fun k e => by cases e; exact .inr rfl)
          have hrg12 := H11.out.1.kept hg12 (by intro e; have := Option.some.inj e; omega) (by intro e; have := Option.some.inj e; omega)
          have H12 := Lib.hid (And.intro hrg12 (And.intro hS12 (And.intro hkp12 (Nat.le_trans hsz11 hg12.size))))
          clear hrg12 hS12 hkp12 hg12
          go_wp2_with fail
          go_roundw
          case rel =>
            refine ⟨_, cnt', insL S x, H12.out.1, H12.out.2.1, H11.out.2.2.2.1, fun y hy => ?_, H12.out.2.2.1, H12.out.2.2.2⟩
            rcases (insL_mem _ _ _).1 hy with rfl | hy
            · exact H11.out.2.2.2.2.2
            · exact Hi.out.2.2.1 y hy
          case measure => rw [H12.out.1.left_eq, Hrg.out.left_eq]; exact H11.out.2.2.2.2.1
end Go.Proofs.YtapjdndcnenadaaDoor
