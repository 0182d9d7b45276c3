/- loops.graphOf: it returns, in new memory, the three maps of the edges. -/
import Derived.Test.YtapjdndcnenadaaDoorLoopPlain
import Derived.Test.YtapjdndcnenadaaDoorRegInv
import Derived.Sort.CutIn
namespace Go.Proofs.YtapjdndcnenadaaDoor
open Go.RowKit Go.Shelf
attribute [local go_sem] Oper.semAt_some wide_fn

def graphV (b0 : Nat) : Value := .agg #[.map (some b0), .map (some (b0 + 1)), .map (some (b0 + 2))]
/-- The three maps in memory. -/
def GraphIn (w : World) (b0 : Nat) (code : List Ins) : Prop := ∃ B N V, GG w b0 B N V (gf code (edgesL code)) ∧ N ≤ 10000
def RetGraph (code : List Ins) (w : World) (e : Ending) (w' : World) : Prop :=
  ∃ b0, e = .returned (graphV b0) ∧ GraphIn w' b0 code ∧ w.heap.size ≤ b0 ∧ Below w.heap.size w w'

/-- Behind the world wC: the maps at b0 turn, and new rows are made. -/
structure GI (wC W : World) (b0 N : Nat) (V : Nat → Int → Value) (f : Nat → Int → List Int) : Prop where
  gg : GG W b0 (wC.heap.size + 1) N V f
  same : ∀ k, k < wC.heap.size → ¬ (b0 ≤ k ∧ k < b0 + 3) → W.heap[k]? = wC.heap[k]?
  os : W.os = wC.os
  tape : W.tape = wC.tape
  output : W.output = wC.output
  size : wC.heap.size + 1 ≤ W.heap.size
theorem GI.cell {wC W : World} {b0 N : Nat} {V : Nat → Int → Value} {f : Nat → Int → List Int} (h : GI wC W b0 N V f) {p : Addr} (h1 : p.block < wC.heap.size) (h2 : ¬ (b0 ≤ p.block ∧ p.block < b0 + 3)) : W.cell? p = wC.cell? p := World.cell?_of_block (w := wC) (h.same p.block h1 h2)
theorem GI.turn {wC W W' : World} {row : Option Nat} {b0 N : Nat} {V : Nat → Int → Value} {f : Nat → Int → List Int} (h : GI wC W b0 N V f) (h0 : b0 + 3 ≤ wC.heap.size) (hg : W.grownBy W' row) (hr : ∀ r, row = some r → wC.heap.size + 1 ≤ r ∧ ∃ o : Obj, W.heap[r]? = some o ∧ o.isCells = false) : GI wC W' b0 N V f :=
  ⟨h.gg.turn hg (fun r e => ⟨by have := (hr r e).1; omega, (hr r e).2⟩), fun k hk hn => by
    rw [hg.block k (by have := h.size; omega) (fun e => by have := (hr k e.symm).1; omega)]; exact h.same k hk hn,
    hg.os.trans h.os, hg.tape.trans h.tape, hg.output.trans h.output, Nat.le_trans h.size hg.size⟩
/-- A round's 'm[x] = append(m[x], u)'. -/
theorem GI.grow {wC W w1 : World} {b0 N : Nat} {V : Nat → Int → Value} {f : Nat → Int → List Int} (h : GI wC W b0 N V f) (h0 : b0 + 3 ≤ wC.heap.size) {i : Nat} {x u : Int} (hi : i < 3) (hx : -9223372036854775808 ≤ x ∧ x ≤ 9223372036854775807) {o : Obj} {v' : Value}
    (ho : OwnInts w1 (wC.heap.size + 1) v' (f i x ++ [u])) (hgr : (W.drew.alloc o).grownBy w1 (V i x).ownBlock) (hfr : Fresh (W.drew.alloc o) (V i x) v') (hN : N ≤ 1000000) :
    ∃ w2, (Instr.mapUpdate 57 (.map (some (b0 + i))) (.int .i64 x) v').run Tryd.prog w1 = .ok () w2 ∧ KeepsFrom (wC.heap.size + 1) W w2 ∧ KM (gM b0 (wC.heap.size + 1)) W w2 ∧
      GI wC w2 b0 (N + 1) (fun j y => if j = i ∧ y = x then v' else V j y) (fun j y => if j = i ∧ y = x then f i x ++ [u] else f j y) := by
  have hgd : GG W.drew b0 (wC.heap.size + 1) N V f := h.gg.later (Below.refl _ _).drew
  obtain ⟨d, hd⟩ := sliceD_owns ho
  have hlow := h.gg.low
  have hsz := hgr.size
  rw [World.size_alloc] at hsz
  have hszd : W.drew.heap.size = W.heap.size := rfl
  have hsW := h.size
  have hrow : ∀ k, (V i x).ownBlock = some k → wC.heap.size + 1 ≤ k := fun k hk => (h.gg.row hi hk).1
  have hm1 : GMap w1 (b0 + i) N (V i) := ((hgd.map i hi).at_block (((Below.refl W.drew.heap.size W.drew).alloc (Nat.le_refl _) o).block _ (by omega))).kept hgr (fun e => by have := hrow _ e.symm; omega)
  obtain ⟨w2, hr, hm2, hg2⟩ := hm1.put hx hd (posV_owns ho) hN
  obtain ⟨hk1, hk2⟩ := gM_keeps hgd hi hx ho hgr hfr hm2 hg2
  have hGG := hgd.grow hi ho hgr hfr hm2 hg2
  refine ⟨w2, hr, ⟨hk2.1, fun k o' hk hko hc => hk2.2 k o' hk hko hc⟩, ⟨hk1.size, hk1.same, hk1.own, hk1.lt⟩, hGG, fun k hk hn => ?_, ?_, ?_, ?_, ?_⟩
  · rw [hg2.block k (by omega) (fun e => hn (by have := Option.some.inj e; omega)), hgr.block k (by rw [World.size_alloc]; omega) (fun e => by have := hrow _ e.symm; omega)]
    exact (((Below.refl W.heap.size W).drew.alloc (Nat.le_refl _) o).block k (by omega)).trans (h.same k hk hn)
  · exact (hg2.os.trans hgr.os).trans h.os
  · have e1 : (W.drew.alloc o).tape = W.tape := rfl
    exact (hg2.tape.trans hgr.tape).trans (by rw [e1]; exact h.tape)
  · exact (hg2.output.trans hgr.output).trans h.output
  · have := hg2.size; omega

/-- What lies in memory where the edges are asked for. -/
structure GB (w W : World) (s : ByteArray) (vp : Value) (regs words : Int) (vc : Value) : Prop where
  fn : FnAt W w.heap.size s vp regs words vc
  r0 : W.cell? ⟨w.heap.size + 1, 0, none⟩ = some (.map none)
  r1 : W.cell? ⟨w.heap.size + 1, 1, none⟩ = some (.map none)
  r2 : W.cell? ⟨w.heap.size + 1, 2, none⟩ = some (.map none)
  z0 : W.frozen? ⟨w.heap.size + 1, 0, none⟩ = false
  z1 : W.frozen? ⟨w.heap.size + 1, 1, none⟩ = false
  z2 : W.frozen? ⟨w.heap.size + 1, 2, none⟩ = false
  t0 : W.cell? ⟨w.heap.size + 5, 0, none⟩ = some (.map (some (w.heap.size + 2)))
  t1 : W.cell? ⟨w.heap.size + 5, 1, none⟩ = some (.map (some (w.heap.size + 3)))
  t2 : W.cell? ⟨w.heap.size + 5, 2, none⟩ = some (.map (some (w.heap.size + 4)))
  maps : ∀ i, i < 3 → GMap W (w.heap.size + 2 + i) 0 (fun _ => nilV)
  below : Below w.heap.size w W
  size : w.heap.size + 6 ≤ W.heap.size
theorem GB.later {w W W' : World} {s : ByteArray} {vp : Value} {regs words : Int} {vc : Value} (h : GB w W s vp regs words vc) (hb : Below W.heap.size W W') : GB w W' s vp regs words vc := by
  have hs := h.size
  have c : ∀ p : Addr, p.block < w.heap.size + 6 → W'.cell? p = W.cell? p := fun p hp => hb.cell (by omega)
  have z : ∀ p : Addr, p.block < w.heap.size + 6 → W'.frozen? p = W.frozen? p := fun p hp => hb.frozen (by omega)
  exact ⟨h.fn.later hb (by omega), (c _ (by show w.heap.size + 1 < _; omega)).trans h.r0, (c _ (by show w.heap.size + 1 < _; omega)).trans h.r1, (c _ (by show w.heap.size + 1 < _; omega)).trans h.r2,
    (z _ (by show w.heap.size + 1 < _; omega)).trans h.z0, (z _ (by show w.heap.size + 1 < _; omega)).trans h.z1, (z _ (by show w.heap.size + 1 < _; omega)).trans h.z2,
    (c _ (by show w.heap.size + 5 < _; omega)).trans h.t0, (c _ (by show w.heap.size + 5 < _; omega)).trans h.t1, (c _ (by show w.heap.size + 5 < _; omega)).trans h.t2,
    fun i hi => (h.maps i hi).at_block (hb.block _ (by omega)), h.below.trans (hb.mono (by omega)), Nat.le_trans hs hb.size⟩
abbrev gW (w : World) (F : Array Value) : World :=
  (((((w.alloc (.cells F 25)).alloc (.cells #[.map none, .map none, .map none] 59)).alloc (.map #[] 0)).alloc (.map #[] 0)).alloc (.map #[] 0)).alloc (.cells #[.map (some (w.heap.size + 1 + 1)), .map (some (w.heap.size + 1 + 1 + 1)), .map (some (w.heap.size + 1 + 1 + 1 + 1))] 59)
theorem GB.start (w : World) (s : ByteArray) (vp : Value) (regs words : Int) (vc : Value) : GB w (gW w #[.string s, vp, .int .i64 regs, .int .i64 words, vc]) s vp regs words vc := by
  have a1 : Below (w.heap.size + 1) (w.alloc (.cells #[.string s, vp, .int .i64 regs, .int .i64 words, vc] 25)) (gW w #[.string s, vp, .int .i64 regs, .int .i64 words, vc]) :=
    ((((((Below.refl (w.heap.size + 1) _).alloc (by (try simp only [World.size_alloc]); (try simp only [size_set]); omega) _).alloc (by (try simp only [World.size_alloc]); (try simp only [size_set]); omega) _).alloc (by (try simp only [World.size_alloc]); (try simp only [size_set]); omega) _).alloc (by (try simp only [World.size_alloc]); (try simp only [size_set]); omega) _).alloc (by (try simp only [World.size_alloc]); (try simp only [size_set]); omega) _)
  have a2 : Below (w.heap.size + 2) ((w.alloc (.cells #[.string s, vp, .int .i64 regs, .int .i64 words, vc] 25)).alloc (.cells #[.map none, .map none, .map none] 59)) (gW w #[.string s, vp, .int .i64 regs, .int .i64 words, vc]) :=
    (((((Below.refl (w.heap.size + 2) _).alloc (by (try simp only [World.size_alloc]); (try simp only [size_set]); omega) _).alloc (by (try simp only [World.size_alloc]); (try simp only [size_set]); omega) _).alloc (by (try simp only [World.size_alloc]); (try simp only [size_set]); omega) _).alloc (by (try simp only [World.size_alloc]); (try simp only [size_set]); omega) _)
  have hc : ∀ j u, (#[Value.map none, .map none, .map none] : Array Value)[j]? = some u → (gW w #[.string s, vp, .int .i64 regs, .int .i64 words, vc]).cell? ⟨w.heap.size + 1, j, none⟩ = some u := fun j u hu => by
    rw [a2.cell (p := ⟨w.heap.size + 1, j, none⟩) (by show w.heap.size + 1 < _; omega), World.cell?_alloc_at _ _ _ _ (by simp)]; exact hu
  have hz : ∀ j, (gW w #[.string s, vp, .int .i64 regs, .int .i64 words, vc]).frozen? ⟨w.heap.size + 1, j, none⟩ = false := fun j => by
    rw [a2.frozen (p := ⟨w.heap.size + 1, j, none⟩) (by show w.heap.size + 1 < _; omega)]
    rw [World.frozen?_alloc_at _ _ _ _ (by simp)]
  have ht : ∀ j u, (#[Value.map (some (w.heap.size + 1 + 1)), .map (some (w.heap.size + 1 + 1 + 1)), .map (some (w.heap.size + 1 + 1 + 1 + 1))] : Array Value)[j]? = some u → (gW w #[.string s, vp, .int .i64 regs, .int .i64 words, vc]).cell? ⟨w.heap.size + 5, j, none⟩ = some u := fun j u hu => by
    rw [World.cell?_alloc_at _ _ _ _ (by simp)]; exact hu
  refine ⟨(FnAt.box w s vp regs words vc _).later a1 (Nat.lt_succ_self _), hc 0 _ rfl, hc 1 _ rfl, hc 2 _ rfl, hz 0, hz 1, hz 2, ht 0 _ rfl, ht 1 _ rfl, ht 2 _ rfl, fun i hi => ?_, ?_, (by (try simp only [World.size_alloc]); (try simp only [size_set]); omega)⟩
  · match i, hi with
    | 0, _ =>
      have := GMap.made ((w.alloc (.cells #[.string s, vp, .int .i64 regs, .int .i64 words, vc] 25)).alloc (.cells #[.map none, .map none, .map none] 59))
      rw [World.size_alloc, World.size_alloc] at this
      exact ((this.kept (World.grownBy_alloc _ _ none) (by simp)).kept (World.grownBy_alloc _ _ none) (by simp)).kept (World.grownBy_alloc _ _ none) (by simp)
    | 1, _ =>
      have := GMap.made (((w.alloc (.cells #[.string s, vp, .int .i64 regs, .int .i64 words, vc] 25)).alloc (.cells #[.map none, .map none, .map none] 59)).alloc (.map #[] 0))
      rw [World.size_alloc, World.size_alloc, World.size_alloc] at this
      exact (this.kept (World.grownBy_alloc _ _ none) (by simp)).kept (World.grownBy_alloc _ _ none) (by simp)
    | 2, _ =>
      have := GMap.made ((((w.alloc (.cells #[.string s, vp, .int .i64 regs, .int .i64 words, vc] 25)).alloc (.cells #[.map none, .map none, .map none] 59)).alloc (.map #[] 0)).alloc (.map #[] 0))
      rw [World.size_alloc, World.size_alloc, World.size_alloc, World.size_alloc] at this
      exact this.kept (World.grownBy_alloc _ _ none) (by simp)
  · exact (((((((Below.refl w.heap.size w).alloc (by (try simp only [World.size_alloc]); (try simp only [size_set]); omega) _).alloc (by (try simp only [World.size_alloc]); (try simp only [size_set]); omega) _).alloc (by (try simp only [World.size_alloc]); (try simp only [size_set]); omega) _).alloc (by (try simp only [World.size_alloc]); (try simp only [size_set]); omega) _).alloc (by (try simp only [World.size_alloc]); (try simp only [size_set]); omega) _).alloc (by (try simp only [World.size_alloc]); (try simp only [size_set]); omega) _)

theorem GI.start {wC : World} {b0 : Nat} (hm : ∀ i, i < 3 → GMap wC (b0 + i) 0 (fun _ => nilV)) (h0 : b0 + 3 ≤ wC.heap.size) (code : List Ins) (o : Obj) : GI wC (wC.alloc o) b0 0 (fun _ _ => nilV) (gf code []) := by
  have hb : Below wC.heap.size wC (wC.alloc o) := (Below.refl _ _).alloc (Nat.le_refl _) o
  have e : ∀ i y, gf code [] i y = [] := fun i y => by unfold gf toI outI backsIn aheadIn; simp
  refine ⟨⟨fun i hi => (hm i hi).at_block (hb.block _ (hm i hi).lt), fun i y _ => ?_, fun i j y z _ _ _ k hk => by simp [Value.ownBlock] at hk, by omega⟩, fun k hk _ => hb.block k hk, rfl, rfl, rfl, by rw [World.size_alloc]; exact Nat.le_refl _⟩
  rw [e]; exact World.ownsRow_nil _ _ _ _

theorem GG.set {W : World} {b0 B N : Nat} {V : Nat → Int → Value} {f : Nat → Int → List Int} (h : GG W b0 B N V f) {p : Addr} (hp : p.block < B) (hno : ¬ (b0 ≤ p.block ∧ p.block < b0 + 3)) (u : Value) : GG (W.setCell p u) b0 B N V f :=
  ⟨fun i hi => (h.map i hi).at_block (Below.heap_setCell _ _ _ _ (by omega)), fun i y hi => ownsRow_setCell_below (h.each i y hi) hp _, h.apart, h.low⟩
theorem GG.put {W : World} {b0 B N : Nat} {V : Nat → Int → Value} {f : Nat → Int → List Int} (h : GG W b0 B N V f) {l : Nat} {o : Obj} (o' : Obj) (hl : W.heap[l]? = some o) (ho : o.isCells = false) (hb : b0 + 3 ≤ l) : GG (W.putObj l o') b0 B N V f :=
  ⟨fun i hi => (h.map i hi).at_block (World.putObj_heap_other (by omega)), fun i y hi => ownsRow_putObj (h.each i y hi) o' hl ho, h.apart, h.low⟩
theorem GG.mono {W : World} {b0 B N N' : Nat} {V : Nat → Int → Value} {f : Nat → Int → List Int} (h : GG W b0 B N V f) (hN : N ≤ N') : GG W b0 B N' V f :=
  ⟨fun i hi => (h.map i hi).mono hN, h.each, h.apart, h.low⟩
theorem gf1_len (code : List Ins) (es : List Edge) (e : Edge) (i : Nat) (y : Int) : (gf1 code es e i y).length ≤ es.length + 1 := by
  unfold gf1
  split
  · rw [List.length_append]; have := gf_len code es 0 e.2; simp; omega
  · have := gf_len code es i y; omega
theorem GI.frozen {wC W : World} {b0 N : Nat} {V : Nat → Int → Value} {f : Nat → Int → List Int} (h : GI wC W b0 N V f) {p : Addr} (h1 : p.block < wC.heap.size) (h2 : ¬ (b0 ≤ p.block ∧ p.block < b0 + 3)) : W.frozen? p = wC.frozen? p := World.frozen?_of_block (w := wC) (h.same p.block h1 h2)
theorem KM.refl {M : World → Nat → Prop} (W : World) : KM M W W := ⟨Nat.le_refl _, fun _ _ _ _ h _ => h, fun _ h => .inl h, fun h => h⟩
/-- A round's state: since its start only what the rows' owners may. -/
structure GStep (wC W : World) (g0 M : Nat) (f : Nat → Int → List Int) (wc : World) : Prop where
  keeps : KeepsFrom (wC.heap.size + 1) W wc
  km : KM (gM g0 (wC.heap.size + 1)) W wc
  gi : ∃ N V, N ≤ M ∧ GI wC wc g0 N V f
theorem GStep.next {wC W wc : World} {g0 M N : Nat} {V : Nat → Int → Value} {f : Nat → Int → List Int} (hk : KeepsFrom (wC.heap.size + 1) W wc) (hm : KM (gM g0 (wC.heap.size + 1)) W wc) (h : GI wC wc g0 N V f) (hNM : N ≤ M)
    (h0 : g0 + 3 ≤ wC.heap.size) {i b3 : Nat} (hi : i < 3) (hb3 : b3 < wC.heap.size) (hb3' : ¬ (g0 ≤ b3 ∧ b3 < g0 + 3)) {X : Value} (hc : wC.cell? ⟨b3, i, none⟩ = some X) {x u : Int} (hx : -9223372036854775808 ≤ x ∧ x ≤ 9223372036854775807) (hN : N ≤ 1000000) (o : Obj) :
    ∀ v' w1, OwnInts w1 (wC.heap.size + 1) v' (f i x ++ [u]) → (wc.drew.alloc o).grownBy w1 (V i x).ownBlock → Fresh (wc.drew.alloc o) (V i x) v' → (∀ (C : Nat) (w0 : World), Below C w0 wc.drew → C ≤ wC.heap.size + 1 → Below C w0 w1) →
      w1.cell? ⟨b3, i, none⟩ = some X ∧ ∃ w2, (Instr.mapUpdate 57 (.map (some (g0 + i))) (.int .i64 x) v').run Tryd.prog w1 = .ok () w2 ∧ GStep wC W g0 (M + 1) (fun j y => if j = i ∧ y = x then f i x ++ [u] else f j y) w2 := by
  intro v' w1 ho hgr hfr hbb
  obtain ⟨w2, h1, h2, h3, h4⟩ := h.grow h0 hi hx ho hgr hfr hN
  have hb := hbb (wC.heap.size + 1) wc.drew (Below.refl _ _) (Nat.le_refl _)
  refine ⟨?_, w2, h1, hk.trans h2, hm.trans h3, N + 1, _, by omega, h4⟩
  rw [hb.cell (p := ⟨b3, i, none⟩) (by show b3 < _; omega)]
  exact (h.cell (p := ⟨b3, i, none⟩) hb3 hb3').trans hc
theorem GI.looks {wC wc : World} {g0 N : Nat} {V : Nat → Int → Value} {f : Nat → Int → List Int} (h : GI wC wc g0 N V f) {i : Nat} (hi : i < 3) {x : Int} (hx : -9223372036854775808 ≤ x ∧ x ≤ 9223372036854775807) (o : Obj) :
    (Instr.lookup 57 (.map (some (g0 + i))) (.int .i64 x) false).run Tryd.prog wc.drew = .ok (V i x) wc.drew ∧ (Instr.lookup 57 (.map (some (g0 + i))) (.int .i64 x) false).run Tryd.prog (wc.alloc o).drew = .ok (V i x) (wc.alloc o).drew := by
  have hm := h.gg.map i hi
  have h1 : GMap wc.drew (g0 + i) N (V i) := hm.at_block ((Below.refl wc.heap.size wc).drew.block _ hm.lt)
  exact ⟨h1.look hx, (h1.at_block (((Below.refl wc.drew.heap.size wc.drew).alloc (Nat.le_refl _) o).block _ h1.lt)).look hx⟩

set_option maxRecDepth 100000 in
set_option maxHeartbeats 8000000 in
theorem graph_any (s : ByteArray) (vp : Value) (regs words : Int) (vc : Value) (code : List Ins) (w : World) (hlen : code.length * 40 ≤ 140737488351232) (hc : CodeIn w vc code) :
    Calls Tryd.prog 20 #[fnV s vp regs words vc] w (RetGraph code w) := by
  have hcv := hc
  obtain ⟨-, ac, cc, rfl, -⟩ := hcv
  have Hlen := Lib.hid hlen
  obtain ⟨n, hn⟩ : ∃ n, n = code.length := ⟨_, rfl⟩
  rw [← hn] at hc ⊢
  have hB0 := GB.start w s vp regs words (.slice ac n cc)
  obtain ⟨W1, hW1⟩ : ∃ W1, W1 = gW w #[.string s, vp, .int .i64 regs, .int .i64 words, .slice ac n cc] := ⟨_, rfl⟩
  rw [← hW1] at hB0
  unfold gW at hW1
  have Hc := Lib.hid hc
  have Hn := Lib.hid hn
  have HW1 := Lib.hid hW1
  have HB := Lib.hid hB0
  clear hc hn hlen hB0 hW1
  refine (callsIn_wide (n := 8)).1 ?_
  refine callsIn_of_wp_marks Tryd.func20 rfl trivial ?_ rfl
  simp only [Tryd.ntmps20, List.size_toArray, List.length_cons, List.length_nil, Nat.reduceAdd, Nat.reduceSub, Array.replicate_succ, Array.replicate_zero, List.push_toArray, List.append_toArray, List.nil_append, List.cons_append]
  refine wpIn_wide.2 ?_
  have hmm := @run_makeMap Tryd.prog
  go_wp2_with fail
  rw [← HW1.out]
  obtain ⟨g0, hg0⟩ : ∃ g0, g0 = w.heap.size + 1 + 1 := ⟨_, rfl⟩
  rw [← hg0]
  obtain ⟨g1, hg1⟩ : ∃ g1, g1 = g0 + 1 := ⟨_, rfl⟩
  rw [← hg1]
  obtain ⟨g2, hg2⟩ : ∃ g2, g2 = g1 + 1 := ⟨_, rfl⟩
  rw [← hg2]
  obtain ⟨b3, hb3⟩ : ∃ b3, b3 = g2 + 1 := ⟨_, rfl⟩
  rw [← hb3]
  obtain ⟨b1, hb1⟩ : ∃ b1, b1 = w.heap.size + 1 := ⟨_, rfl⟩
  rw [← hb1]
  have HG := Lib.hid (And.intro hg0 (And.intro hg1 (And.intro hg2 (And.intro hb3 hb1))))
  clear hmm hg0 hg1 hg2 hb3 hb1
  refine (tree_any _ _ _ _ _ code _ (SliceIn.later Hc.out HB.out.below)).mono ?_
  rintro e w2 ⟨htree, vn, rfl, hvn, hb2⟩
  have hB2 := HB.out.later hb2
  obtain ⟨nN, hnN⟩ : ∃ nN, nN = (treeL code).length := ⟨_, rfl⟩
  obtain ⟨an, cn, rfl, han⟩ : ∃ an cn, vn = .slice an nN cn ∧ (0 < nN → ∃ g, an = some ⟨g, 0, none⟩) := by
    rcases OwnInts.form hvn with ⟨h, h2⟩ | ⟨g, c, h, _⟩
    · rw [h2] at hnN; simp at hnN; subst hnN; exact ⟨_, _, h, fun h => absurd h (Nat.lt_irrefl _)⟩
    · rw [← hnN] at h; exact ⟨_, _, h, fun _ => ⟨g, rfl⟩⟩
  obtain ⟨b4, hb4⟩ : ∃ b4, b4 = w2.heap.size := ⟨_, rfl⟩
  obtain ⟨wC, hwC⟩ : ∃ wC, wC = w2.alloc (.cells #[.slice an nN cn] 38) := ⟨_, rfl⟩
  have hb2C : Below w2.heap.size w2 wC := by rw [hwC]; exact (Below.refl _ _).alloc (Nat.le_refl _) _
  have hnbox : wC.cell? ⟨b4, 0, none⟩ = some (.slice an nN cn) := by rw [hwC, hb4]; exact World.cell?_alloc_at _ _ _ _ rfl
  have hs4 : wC.heap.size = b4 + 1 := by rw [hwC, World.size_alloc, hb4]
  have hBC := hB2.later hb2C
  have HBC := Lib.hid hBC
  have HN := Lib.hid (And.intro htree (And.intro (ownsRow_below hvn hb2C (Nat.le_refl _)) (And.intro hnbox (And.intro hnN hs4))))
  have HwC := Lib.hid hwC
  have HN1 : Hid (W1.heap.size ≤ b4) := by rw [hb4]; exact hb2.size
  have Hb4 := Lib.hid hb4
  obtain ⟨f0, f1, f2, f3, f4⟩ := hBC.fn
  rw [hwC] at f0 f1 f2 f3 f4
  clear hb2 hB2 hvn hb2C hnbox hs4 hwC hb4 hBC htree hnN HW1
  go_wp2_with fail
  rw [← HwC.out, ← Hb4.out]
  refine (edges_any _ _ _ _ _ _).mono ?_
  rintro e w3 ⟨rfl, rfl⟩
  clear f0 f1 f2 f3 f4
  go_wp2_with fail
  refine (wpIn_wide (n := 8)).1 ?_
  obtain ⟨W0, hW0⟩ : ∃ W0 : World, W0 = wC.alloc (.cells #[.string s, vp, .int .i64 regs, .int .i64 words, .slice ac n cc] 25) := ⟨_, rfl⟩
  rw [← hW0]
  have hs0 : W0.heap.size = wC.heap.size + 1 := by rw [hW0]; simp
  have hbel : Below wC.heap.size wC W0 := by rw [hW0]; exact (Below.refl _ _).alloc (Nat.le_refl _) _
  have hlow : g0 + 3 ≤ wC.heap.size := by
    have := HBC.out.size; obtain ⟨h1, h2, h3, h4, h5⟩ := HG.out; omega
  have hI0 : GI wC W0 g0 0 (fun _ _ => nilV) (gf code []) := by
    rw [hW0]
    refine GI.start (fun i hi => ?_) hlow code _
    have := HBC.out.maps i hi
    rw [show w.heap.size + 2 = g0 from by obtain ⟨h1, h2, h3, h4, h5⟩ := HG.out; omega] at this
    exact this
  have hE0 : EAt wC W0 wC.heap.size s vp regs words (.slice ac n cc) := by
    refine ⟨?_, hbel.size, fun p u hp hc => (hbel.cell hp).trans hc, by omega⟩
    rw [hW0]
    exact FnAt.box wC s vp regs words (.slice ac n cc) 25
  have hfit : MFit (gM g0 (wC.heap.size + 1)) wC.heap.size wC.heap.size W0.heap.size := gM_fit _ _ _ _ _ (Nat.le_succ _) (Nat.lt_succ_self _) (by omega)
  have hcC : CodeIn wC (.slice ac n cc) code := SliceIn.later Hc.out HBC.out.below
  have hstops := edges_stops 7 wC.heap.size (by omega) wC s vp regs words (.slice ac n cc) code Hlen.out hcC (gM g0 (wC.heap.size + 1)) W0 hfit hE0 (gM_lt hI0.gg)
  have Hs0 := Lib.hid hs0
  have Hlow := Lib.hid hlow
  clear hW0 hs0 hlow hcC
  apply wpIn_rangeFunc_ownG (F := Fence.wide) (n := 8) rfl (by omega) (gf := 43) (lb := #[.pointer (some ⟨wC.heap.size, 0, none⟩)]) rfl trivial (enters_of Tryd.func43 (by kernel_rfl) rfl) hstops
    (fun h k => h.trans k) (fun W l o o' hl h ho _ => KM.put hfit W l o o' hl h ho) (Below.refl _ _) (fun _ => rfl)
    (fun pre W => ∃ N V, N ≤ 2 * pre.length ∧ GI wC W g0 N V (gf code (pre.map (·.1))))
    (fun _ _ _ => False)
  case hI => exact fun q A B row h hg hr => by obtain ⟨N, V, hN, h⟩ := h; exact ⟨N, V, hN, h.turn Hlow.out hg (fun r e => by have := hr r e; rw [Hs0.out] at this; exact ⟨by omega, this.2⟩)⟩
  case hIx => exact fun _ _ _ _ _ hs _ _ => hs
  case h0 => exact ⟨0, _, Nat.zero_le _, hI0⟩
  case hassign =>
    intro l x W K hK
    gi_wp2
    exact hK
  case hstop =>
    rintro D c pre W _ _ h _
    exact h.elim
  case hbody =>
    rintro l0 pre ⟨⟨u, v⟩, hx⟩ W ⟨N, V, hN, hB⟩ hlt
    clear hstops hE0 hI0
    obtain ⟨m1, m2, m3, m4, m5, mB, m7, m8⟩ := edgesL_mem hx
    simp only at m1 m2 m3 m4 m5 m7 m8
    rw [← Hn.out] at m2 m4
    obtain ⟨u, rfl⟩ := Int.eq_ofNat_of_zero_le m1
    obtain ⟨v, rfl⟩ := Int.eq_ofNat_of_zero_le m3
    simp only [Int.toNat_natCast] at m7 m8
    obtain ⟨L, hL⟩ : ∃ L, L = pre.map (·.1) := ⟨_, rfl⟩
    have hn10 : n ≤ 1024 := by
      have := mB; simp [hasB] at this; rw [Hn.out]; exact this.2
    have hLl : L.length ≤ 2048 := by
      rw [hL, List.length_map]
      have := edgesL_le code; omega
    have hLp : L.length = pre.length := by rw [hL, List.length_map]
    rw [← hL] at hB
    have hun : u < n := by omega
    have hvn : v < n := by omega
    have hux : -9223372036854775808 ≤ (u : Int) ∧ (u : Int) ≤ 9223372036854775807 := by omega
    have hvx : -9223372036854775808 ≤ (v : Int) ∧ (v : Int) ≤ 9223372036854775807 := by omega
    have HP := Lib.hid (And.intro hL (And.intro hLl (And.intro hLp (And.intro hN (And.intro mB (And.intro m7 m8))))))
    obtain ⟨hb3lt, hb3no⟩ : b3 < wC.heap.size ∧ ¬ (g0 ≤ b3 ∧ b3 < g0 + 3) := by
      have := HBC.out.size; obtain ⟨h1, h2, h3, h4, h5⟩ := HG.out; omega
    have hcT : wC.cell? ⟨b3, 0, none⟩ = some (.map (some g0)) ∧ wC.cell? ⟨b3, 1, none⟩ = some (.map (some g1)) ∧ wC.cell? ⟨b3, 2, none⟩ = some (.map (some g2)) := by
      have h0 := HBC.out.t0; have h1 := HBC.out.t1; have h2 := HBC.out.t2
      obtain ⟨e1, e2, e3, e4, e5⟩ := HG.out
      rw [show w.heap.size + 5 = b3 from by omega] at h0 h1 h2
      rw [show w.heap.size + 2 = g0 from by omega] at h0
      rw [show w.heap.size + 3 = g1 from by omega] at h1
      rw [show w.heap.size + 4 = g2 from by omega] at h2
      exact ⟨h0, h1, h2⟩
    have HcT := Lib.hid hcT
    have HB3 := Lib.hid (And.intro hb3lt hb3no)
    clear hL hLl hLp hN mB m7 m8 m1 m2 m3 m4 m5 hcT
    gi_upto_region 6 with (fail)
    gi_cut [] from 18 (fun wc => GStep wC W g0 (2 * L.length + 1) (gf1 code L ((u : Int), (v : Int))) wc)
    case first =>
      have hcb : W.cell? ⟨b3, 0, none⟩ = some (.map (some g0)) := (hB.cell (p := ⟨b3, 0, none⟩) hb3lt hb3no).trans HcT.out.1
      have hbW : b3 < W.heap.size := by have := hB.size; omega
      obtain ⟨hl1, hl2⟩ := hB.looks (i := 0) (by omega) hvx (.cells #[.int .i64 (u : Int)] 3)
      rw [Nat.add_zero] at hl1 hl2
      have Hown : Hid (OwnInts W.drew (wC.heap.size + 1) (V 0 v) (gf code L 0 v)) := Lib.hid (World.ownsRow.drew (hB.gg.each 0 v (by omega)))
      have Hlo : Hid ((gf code L 0 v).length ≤ 1000000000000) := Nat.le_trans (gf_len _ _ _ _) (by have := HP.out.2.1; omega)
      have HsD : Hid (wC.heap.size + 1 ≤ W.drew.heap.size) := hB.size
      have hF := GStep.next (u := (u : Int)) (KeepsFrom.refl _ _) (KM.refl _) hB (M := 2 * L.length) (by have := HP.out; omega) Hlow.out (i := 0) (by omega) hb3lt hb3no HcT.out.1 hvx (by have := HP.out; omega) (.cells #[.int .i64 (u : Int)] 3)
      simp only [Nat.add_zero] at hF
      have HF := Lib.hid hF
      generalize V 0 v = vq at hl1 hl2 Hown HF
      clear hF hB hb3lt hb3no hlt
      refine wpIn_region_as_any (by kernel_rfl) (by kernel_rfl) (by rintro ⟨a, w, h⟩; exact h) ?_
      refine wpAny_take (i := 0) rfl (by kernel_rfl) (by kernel_rfl) (by kernel_rfl) (fun _ _ _ h => h) (Or.inl ⟨by rfl, fun w => by go_simp; try rfl⟩) ?_
      refine wpAny_take (i := 2) rfl (by kernel_rfl) (by kernel_rfl) (by kernel_rfl) (fun _ _ _ h => h) (Or.inl ⟨by rfl, fun w => by go_simp; try rfl⟩) ?_
      refine wpAny_take (i := 3) rfl (by kernel_rfl) (by kernel_rfl) (by kernel_rfl) (fun _ _ _ h => h) (Or.inl ⟨by rfl, fun w => by go_simp; try rfl⟩) ?_
      refine wpAny_take (i := 5) rfl (by kernel_rfl) (by kernel_rfl) (by kernel_rfl) (fun _ _ _ h => h) (Or.inl ⟨by rfl, fun w => by go_simp; try rfl⟩) ?_
      refine wpAny_take (i := 7) rfl (by kernel_rfl) (by kernel_rfl) (by kernel_rfl) (fun _ _ _ h => h) (Or.inl ⟨by rfl, fun w => by go_simp; try rfl⟩) ?_
      refine wpAny_ready (rs := [1, 4, 8]) (by kernel_rfl) (by simp) ?_
      refine AllReady.cons rfl (fun K hK => ?_) ?_
      · go_simp
        refine hK _ _ ?_
        clear hK K
        refine wpAny_ready (rs := [4, 8]) (by kernel_rfl) (by simp) ?_
        refine AllReady.cons rfl (fun K hK => ?_) ?_
        · go_simp
          refine hK _ _ ?_
          clear hK K
          refine wpAny_ready (rs := [6, 8]) (by kernel_rfl) (by simp) ?_
          refine AllReady.cons rfl (fun K hK => ?_) ?_
          · go_simp
            try (first | rw [hl1] | rw [hl2])
            try go_simp
            refine hK _ _ ?_
            clear hK K
            refine wpAny_ready (rs := [8]) (by kernel_rfl) (by simp) ?_
            refine AllReady.cons rfl (fun K hK => ?_) ?_
            · go_simp
              refine hK _ _ ?_
              clear hK K
              refine wpAny_ready (rs := [9]) (by kernel_rfl) (by simp) ?_
              refine AllReady.cons rfl (fun K hK => ?_) ?_
              · refine append_int_wp _ _ rfl (wC.heap.size + 1) vq _ rfl Hown.out (u:Int) _ rfl rfl Hlo.out HsD.out ?_
                intro v' w1 ho' hgr hfr hbb
                obtain ⟨a', l', c', rfl⟩ := ints_any ho'
                obtain ⟨cA, w2, hmu, hFin⟩ := HF.out _ w1 ho' hgr hfr hbb
                have HFin := Lib.hid hFin
                clear ho' hgr hfr hbb hFin
                refine hK _ _ ?_
                clear hK K
                refine wpAny_ready (rs := [10]) (by kernel_rfl) (by simp) ?_
                refine AllReady.cons rfl (fun K hK => ?_) ?_
                · go_simp
                  try rw [hmu]
                  try go_simp
                  refine hK _ _ ?_
                  clear hK K
                  refine wpAny_done (by kernel_rfl) ?_ _
                  (gi_wp2; gi_meet; case rel => exact HFin.out)
                exact AllReady.nil
              exact AllReady.nil
            exact AllReady.nil
          refine AllReady.cons rfl (fun K hK => ?_) ?_
          · go_simp
            refine hK _ _ ?_
            clear hK K
            refine wpAny_ready (rs := [6]) (by kernel_rfl) (by simp) ?_
            refine AllReady.cons rfl (fun K hK => ?_) ?_
            · go_simp
              try (first | rw [hl1] | rw [hl2])
              try go_simp
              refine hK _ _ ?_
              clear hK K
              refine wpAny_ready (rs := [9]) (by kernel_rfl) (by simp) ?_
              refine AllReady.cons rfl (fun K hK => ?_) ?_
              · refine append_int_wp _ _ rfl (wC.heap.size + 1) vq _ rfl Hown.out (u:Int) _ rfl rfl Hlo.out HsD.out ?_
                intro v' w1 ho' hgr hfr hbb
                obtain ⟨a', l', c', rfl⟩ := ints_any ho'
                obtain ⟨cA, w2, hmu, hFin⟩ := HF.out _ w1 ho' hgr hfr hbb
                have HFin := Lib.hid hFin
                clear ho' hgr hfr hbb hFin
                refine hK _ _ ?_
                clear hK K
                refine wpAny_ready (rs := [10]) (by kernel_rfl) (by simp) ?_
                refine AllReady.cons rfl (fun K hK => ?_) ?_
                · go_simp
                  try rw [hmu]
                  try go_simp
                  refine hK _ _ ?_
                  clear hK K
                  refine wpAny_done (by kernel_rfl) ?_ _
                  (gi_wp2; gi_meet; case rel => exact HFin.out)
                exact AllReady.nil
              exact AllReady.nil
            exact AllReady.nil
          exact AllReady.nil
        refine AllReady.cons rfl (fun K hK => ?_) ?_
        · go_simp
          refine hK _ _ ?_
          clear hK K
          refine wpAny_ready (rs := [4]) (by kernel_rfl) (by simp) ?_
          refine AllReady.cons rfl (fun K hK => ?_) ?_
          · go_simp
            refine hK _ _ ?_
            clear hK K
            refine wpAny_ready (rs := [6]) (by kernel_rfl) (by simp) ?_
            refine AllReady.cons rfl (fun K hK => ?_) ?_
            · go_simp
              try (first | rw [hl1] | rw [hl2])
              try go_simp
              refine hK _ _ ?_
              clear hK K
              refine wpAny_ready (rs := [9]) (by kernel_rfl) (by simp) ?_
              refine AllReady.cons rfl (fun K hK => ?_) ?_
              · refine append_int_wp _ _ rfl (wC.heap.size + 1) vq _ rfl Hown.out (u:Int) _ rfl rfl Hlo.out HsD.out ?_
                intro v' w1 ho' hgr hfr hbb
                obtain ⟨a', l', c', rfl⟩ := ints_any ho'
                obtain ⟨cA, w2, hmu, hFin⟩ := HF.out _ w1 ho' hgr hfr hbb
                have HFin := Lib.hid hFin
                clear ho' hgr hfr hbb hFin
                refine hK _ _ ?_
                clear hK K
                refine wpAny_ready (rs := [10]) (by kernel_rfl) (by simp) ?_
                refine AllReady.cons rfl (fun K hK => ?_) ?_
                · go_simp
                  try rw [hmu]
                  try go_simp
                  refine hK _ _ ?_
                  clear hK K
                  refine wpAny_done (by kernel_rfl) ?_ _
                  (gi_wp2; gi_meet; case rel => exact HFin.out)
                exact AllReady.nil
              exact AllReady.nil
            exact AllReady.nil
          exact AllReady.nil
        exact AllReady.nil
      refine AllReady.cons rfl (fun K hK => ?_) ?_
      · go_simp
        refine hK _ _ ?_
        clear hK K
        refine wpAny_ready (rs := [1, 6, 8]) (by kernel_rfl) (by simp) ?_
        refine AllReady.cons rfl (fun K hK => ?_) ?_
        · go_simp
          refine hK _ _ ?_
          clear hK K
          refine wpAny_ready (rs := [6, 8]) (by kernel_rfl) (by simp) ?_
          refine AllReady.cons rfl (fun K hK => ?_) ?_
          · go_simp
            try (first | rw [hl1] | rw [hl2])
            try go_simp
            refine hK _ _ ?_
            clear hK K
            refine wpAny_ready (rs := [8]) (by kernel_rfl) (by simp) ?_
            refine AllReady.cons rfl (fun K hK => ?_) ?_
            · go_simp
              refine hK _ _ ?_
              clear hK K
              refine wpAny_ready (rs := [9]) (by kernel_rfl) (by simp) ?_
              refine AllReady.cons rfl (fun K hK => ?_) ?_
              · refine append_int_wp _ _ rfl (wC.heap.size + 1) vq _ rfl Hown.out (u:Int) _ rfl rfl Hlo.out HsD.out ?_
                intro v' w1 ho' hgr hfr hbb
                obtain ⟨a', l', c', rfl⟩ := ints_any ho'
                obtain ⟨cA, w2, hmu, hFin⟩ := HF.out _ w1 ho' hgr hfr hbb
                have HFin := Lib.hid hFin
                clear ho' hgr hfr hbb hFin
                refine hK _ _ ?_
                clear hK K
                refine wpAny_ready (rs := [10]) (by kernel_rfl) (by simp) ?_
                refine AllReady.cons rfl (fun K hK => ?_) ?_
                · go_simp
                  try rw [hmu]
                  try go_simp
                  refine hK _ _ ?_
                  clear hK K
                  refine wpAny_done (by kernel_rfl) ?_ _
                  (gi_wp2; gi_meet; case rel => exact HFin.out)
                exact AllReady.nil
              exact AllReady.nil
            exact AllReady.nil
          refine AllReady.cons rfl (fun K hK => ?_) ?_
          · go_simp
            refine hK _ _ ?_
            clear hK K
            refine wpAny_ready (rs := [6]) (by kernel_rfl) (by simp) ?_
            refine AllReady.cons rfl (fun K hK => ?_) ?_
            · go_simp
              try (first | rw [hl1] | rw [hl2])
              try go_simp
              refine hK _ _ ?_
              clear hK K
              refine wpAny_ready (rs := [9]) (by kernel_rfl) (by simp) ?_
              refine AllReady.cons rfl (fun K hK => ?_) ?_
              · refine append_int_wp _ _ rfl (wC.heap.size + 1) vq _ rfl Hown.out (u:Int) _ rfl rfl Hlo.out HsD.out ?_
                intro v' w1 ho' hgr hfr hbb
                obtain ⟨a', l', c', rfl⟩ := ints_any ho'
                obtain ⟨cA, w2, hmu, hFin⟩ := HF.out _ w1 ho' hgr hfr hbb
                have HFin := Lib.hid hFin
                clear ho' hgr hfr hbb hFin
                refine hK _ _ ?_
                clear hK K
                refine wpAny_ready (rs := [10]) (by kernel_rfl) (by simp) ?_
                refine AllReady.cons rfl (fun K hK => ?_) ?_
                · go_simp
                  try rw [hmu]
                  try go_simp
                  refine hK _ _ ?_
                  clear hK K
                  refine wpAny_done (by kernel_rfl) ?_ _
                  (gi_wp2; gi_meet; case rel => exact HFin.out)
                exact AllReady.nil
              exact AllReady.nil
            exact AllReady.nil
          exact AllReady.nil
        refine AllReady.cons rfl (fun K hK => ?_) ?_
        · go_simp
          try (first | rw [hl1] | rw [hl2])
          try go_simp
          refine hK _ _ ?_
          clear hK K
          refine wpAny_ready (rs := [1, 8]) (by kernel_rfl) (by simp) ?_
          refine AllReady.cons rfl (fun K hK => ?_) ?_
          · go_simp
            refine hK _ _ ?_
            clear hK K
            refine wpAny_ready (rs := [8]) (by kernel_rfl) (by simp) ?_
            refine AllReady.cons rfl (fun K hK => ?_) ?_
            · go_simp
              refine hK _ _ ?_
              clear hK K
              refine wpAny_ready (rs := [9]) (by kernel_rfl) (by simp) ?_
              refine AllReady.cons rfl (fun K hK => ?_) ?_
              · refine append_int_wp _ _ rfl (wC.heap.size + 1) vq _ rfl Hown.out (u:Int) _ rfl rfl Hlo.out HsD.out ?_
                intro v' w1 ho' hgr hfr hbb
                obtain ⟨a', l', c', rfl⟩ := ints_any ho'
                obtain ⟨cA, w2, hmu, hFin⟩ := HF.out _ w1 ho' hgr hfr hbb
                have HFin := Lib.hid hFin
                clear ho' hgr hfr hbb hFin
                refine hK _ _ ?_
                clear hK K
                refine wpAny_ready (rs := [10]) (by kernel_rfl) (by simp) ?_
                refine AllReady.cons rfl (fun K hK => ?_) ?_
                · go_simp
                  try rw [hmu]
                  try go_simp
                  refine hK _ _ ?_
                  clear hK K
                  refine wpAny_done (by kernel_rfl) ?_ _
                  (gi_wp2; gi_meet; case rel => exact HFin.out)
                exact AllReady.nil
              exact AllReady.nil
            exact AllReady.nil
          refine AllReady.cons rfl (fun K hK => ?_) ?_
          · go_simp
            refine hK _ _ ?_
            clear hK K
            refine wpAny_ready (rs := [1, 9]) (by kernel_rfl) (by simp) ?_
            refine AllReady.cons rfl (fun K hK => ?_) ?_
            · go_simp
              refine hK _ _ ?_
              clear hK K
              refine wpAny_ready (rs := [9]) (by kernel_rfl) (by simp) ?_
              refine AllReady.cons rfl (fun K hK => ?_) ?_
              · refine append_int_wp _ _ rfl (wC.heap.size + 1) vq _ rfl Hown.out (u:Int) _ rfl rfl Hlo.out HsD.out ?_
                intro v' w1 ho' hgr hfr hbb
                obtain ⟨a', l', c', rfl⟩ := ints_any ho'
                obtain ⟨cA, w2, hmu, hFin⟩ := HF.out _ w1 ho' hgr hfr hbb
                have HFin := Lib.hid hFin
                clear ho' hgr hfr hbb hFin
                refine hK _ _ ?_
                clear hK K
                refine wpAny_ready (rs := [10]) (by kernel_rfl) (by simp) ?_
                refine AllReady.cons rfl (fun K hK => ?_) ?_
                · go_simp
                  try rw [hmu]
                  try go_simp
                  refine hK _ _ ?_
                  clear hK K
                  refine wpAny_done (by kernel_rfl) ?_ _
                  (gi_wp2; gi_meet; case rel => exact HFin.out)
                exact AllReady.nil
              exact AllReady.nil
            refine AllReady.cons rfl (fun K hK => ?_) ?_
            · refine append_int_wp _ _ rfl (wC.heap.size + 1) vq _ rfl Hown.out (u:Int) _ rfl rfl Hlo.out HsD.out ?_
              intro v' w1 ho' hgr hfr hbb
              obtain ⟨a', l', c', rfl⟩ := ints_any ho'
              obtain ⟨cA, w2, hmu, hFin⟩ := HF.out _ w1 ho' hgr hfr hbb
              have HFin := Lib.hid hFin
              clear ho' hgr hfr hbb hFin
              refine hK _ _ ?_
              clear hK K
              refine wpAny_ready (rs := [1]) (by kernel_rfl) (by simp) ?_
              refine AllReady.cons rfl (fun K hK => ?_) ?_
              · go_simp
                refine hK _ _ ?_
                clear hK K
                refine wpAny_ready (rs := [10]) (by kernel_rfl) (by simp) ?_
                refine AllReady.cons rfl (fun K hK => ?_) ?_
                · go_simp
                  try rw [hmu]
                  try go_simp
                  refine hK _ _ ?_
                  clear hK K
                  refine wpAny_done (by kernel_rfl) ?_ _
                  (gi_wp2; gi_meet; case rel => exact HFin.out)
                exact AllReady.nil
              exact AllReady.nil
            exact AllReady.nil
          exact AllReady.nil
        refine AllReady.cons rfl (fun K hK => ?_) ?_
        · go_simp
          refine hK _ _ ?_
          clear hK K
          refine wpAny_ready (rs := [1, 6]) (by kernel_rfl) (by simp) ?_
          refine AllReady.cons rfl (fun K hK => ?_) ?_
          · go_simp
            refine hK _ _ ?_
            clear hK K
            refine wpAny_ready (rs := [6]) (by kernel_rfl) (by simp) ?_
            refine AllReady.cons rfl (fun K hK => ?_) ?_
            · go_simp
              try (first | rw [hl1] | rw [hl2])
              try go_simp
              refine hK _ _ ?_
              clear hK K
              refine wpAny_ready (rs := [9]) (by kernel_rfl) (by simp) ?_
              refine AllReady.cons rfl (fun K hK => ?_) ?_
              · refine append_int_wp _ _ rfl (wC.heap.size + 1) vq _ rfl Hown.out (u:Int) _ rfl rfl Hlo.out HsD.out ?_
                intro v' w1 ho' hgr hfr hbb
                obtain ⟨a', l', c', rfl⟩ := ints_any ho'
                obtain ⟨cA, w2, hmu, hFin⟩ := HF.out _ w1 ho' hgr hfr hbb
                have HFin := Lib.hid hFin
                clear ho' hgr hfr hbb hFin
                refine hK _ _ ?_
                clear hK K
                refine wpAny_ready (rs := [10]) (by kernel_rfl) (by simp) ?_
                refine AllReady.cons rfl (fun K hK => ?_) ?_
                · go_simp
                  try rw [hmu]
                  try go_simp
                  refine hK _ _ ?_
                  clear hK K
                  refine wpAny_done (by kernel_rfl) ?_ _
                  (gi_wp2; gi_meet; case rel => exact HFin.out)
                exact AllReady.nil
              exact AllReady.nil
            exact AllReady.nil
          refine AllReady.cons rfl (fun K hK => ?_) ?_
          · go_simp
            try (first | rw [hl1] | rw [hl2])
            try go_simp
            refine hK _ _ ?_
            clear hK K
            refine wpAny_ready (rs := [1, 9]) (by kernel_rfl) (by simp) ?_
            refine AllReady.cons rfl (fun K hK => ?_) ?_
            · go_simp
              refine hK _ _ ?_
              clear hK K
              refine wpAny_ready (rs := [9]) (by kernel_rfl) (by simp) ?_
              refine AllReady.cons rfl (fun K hK => ?_) ?_
              · refine append_int_wp _ _ rfl (wC.heap.size + 1) vq _ rfl Hown.out (u:Int) _ rfl rfl Hlo.out HsD.out ?_
                intro v' w1 ho' hgr hfr hbb
                obtain ⟨a', l', c', rfl⟩ := ints_any ho'
                obtain ⟨cA, w2, hmu, hFin⟩ := HF.out _ w1 ho' hgr hfr hbb
                have HFin := Lib.hid hFin
                clear ho' hgr hfr hbb hFin
                refine hK _ _ ?_
                clear hK K
                refine wpAny_ready (rs := [10]) (by kernel_rfl) (by simp) ?_
                refine AllReady.cons rfl (fun K hK => ?_) ?_
                · go_simp
                  try rw [hmu]
                  try go_simp
                  refine hK _ _ ?_
                  clear hK K
                  refine wpAny_done (by kernel_rfl) ?_ _
                  (gi_wp2; gi_meet; case rel => exact HFin.out)
                exact AllReady.nil
              exact AllReady.nil
            refine AllReady.cons rfl (fun K hK => ?_) ?_
            · refine append_int_wp _ _ rfl (wC.heap.size + 1) vq _ rfl Hown.out (u:Int) _ rfl rfl Hlo.out HsD.out ?_
              intro v' w1 ho' hgr hfr hbb
              obtain ⟨a', l', c', rfl⟩ := ints_any ho'
              obtain ⟨cA, w2, hmu, hFin⟩ := HF.out _ w1 ho' hgr hfr hbb
              have HFin := Lib.hid hFin
              clear ho' hgr hfr hbb hFin
              refine hK _ _ ?_
              clear hK K
              refine wpAny_ready (rs := [1]) (by kernel_rfl) (by simp) ?_
              refine AllReady.cons rfl (fun K hK => ?_) ?_
              · go_simp
                refine hK _ _ ?_
                clear hK K
                refine wpAny_ready (rs := [10]) (by kernel_rfl) (by simp) ?_
                refine AllReady.cons rfl (fun K hK => ?_) ?_
                · go_simp
                  try rw [hmu]
                  try go_simp
                  refine hK _ _ ?_
                  clear hK K
                  refine wpAny_done (by kernel_rfl) ?_ _
                  (gi_wp2; gi_meet; case rel => exact HFin.out)
                exact AllReady.nil
              exact AllReady.nil
            exact AllReady.nil
          exact AllReady.nil
        exact AllReady.nil
      refine AllReady.cons rfl (fun K hK => ?_) ?_
      · go_simp
        refine hK _ _ ?_
        clear hK K
        refine wpAny_ready (rs := [1, 4]) (by kernel_rfl) (by simp) ?_
        refine AllReady.cons rfl (fun K hK => ?_) ?_
        · go_simp
          refine hK _ _ ?_
          clear hK K
          refine wpAny_ready (rs := [4]) (by kernel_rfl) (by simp) ?_
          refine AllReady.cons rfl (fun K hK => ?_) ?_
          · go_simp
            refine hK _ _ ?_
            clear hK K
            refine wpAny_ready (rs := [6]) (by kernel_rfl) (by simp) ?_
            refine AllReady.cons rfl (fun K hK => ?_) ?_
            · go_simp
              try (first | rw [hl1] | rw [hl2])
              try go_simp
              refine hK _ _ ?_
              clear hK K
              refine wpAny_ready (rs := [9]) (by kernel_rfl) (by simp) ?_
              refine AllReady.cons rfl (fun K hK => ?_) ?_
              · refine append_int_wp _ _ rfl (wC.heap.size + 1) vq _ rfl Hown.out (u:Int) _ rfl rfl Hlo.out HsD.out ?_
                intro v' w1 ho' hgr hfr hbb
                obtain ⟨a', l', c', rfl⟩ := ints_any ho'
                obtain ⟨cA, w2, hmu, hFin⟩ := HF.out _ w1 ho' hgr hfr hbb
                have HFin := Lib.hid hFin
                clear ho' hgr hfr hbb hFin
                refine hK _ _ ?_
                clear hK K
                refine wpAny_ready (rs := [10]) (by kernel_rfl) (by simp) ?_
                refine AllReady.cons rfl (fun K hK => ?_) ?_
                · go_simp
                  try rw [hmu]
                  try go_simp
                  refine hK _ _ ?_
                  clear hK K
                  refine wpAny_done (by kernel_rfl) ?_ _
                  (gi_wp2; gi_meet; case rel => exact HFin.out)
                exact AllReady.nil
              exact AllReady.nil
            exact AllReady.nil
          exact AllReady.nil
        refine AllReady.cons rfl (fun K hK => ?_) ?_
        · go_simp
          refine hK _ _ ?_
          clear hK K
          refine wpAny_ready (rs := [1, 6]) (by kernel_rfl) (by simp) ?_
          refine AllReady.cons rfl (fun K hK => ?_) ?_
          · go_simp
            refine hK _ _ ?_
            clear hK K
            refine wpAny_ready (rs := [6]) (by kernel_rfl) (by simp) ?_
            refine AllReady.cons rfl (fun K hK => ?_) ?_
            · go_simp
              try (first | rw [hl1] | rw [hl2])
              try go_simp
              refine hK _ _ ?_
              clear hK K
              refine wpAny_ready (rs := [9]) (by kernel_rfl) (by simp) ?_
              refine AllReady.cons rfl (fun K hK => ?_) ?_
              · refine append_int_wp _ _ rfl (wC.heap.size + 1) vq _ rfl Hown.out (u:Int) _ rfl rfl Hlo.out HsD.out ?_
                intro v' w1 ho' hgr hfr hbb
                obtain ⟨a', l', c', rfl⟩ := ints_any ho'
                obtain ⟨cA, w2, hmu, hFin⟩ := HF.out _ w1 ho' hgr hfr hbb
                have HFin := Lib.hid hFin
                clear ho' hgr hfr hbb hFin
                refine hK _ _ ?_
                clear hK K
                refine wpAny_ready (rs := [10]) (by kernel_rfl) (by simp) ?_
                refine AllReady.cons rfl (fun K hK => ?_) ?_
                · go_simp
                  try rw [hmu]
                  try go_simp
                  refine hK _ _ ?_
                  clear hK K
                  refine wpAny_done (by kernel_rfl) ?_ _
                  (gi_wp2; gi_meet; case rel => exact HFin.out)
                exact AllReady.nil
              exact AllReady.nil
            exact AllReady.nil
          refine AllReady.cons rfl (fun K hK => ?_) ?_
          · go_simp
            try (first | rw [hl1] | rw [hl2])
            try go_simp
            refine hK _ _ ?_
            clear hK K
            refine wpAny_ready (rs := [1, 9]) (by kernel_rfl) (by simp) ?_
            refine AllReady.cons rfl (fun K hK => ?_) ?_
            · go_simp
              refine hK _ _ ?_
              clear hK K
              refine wpAny_ready (rs := [9]) (by kernel_rfl) (by simp) ?_
              refine AllReady.cons rfl (fun K hK => ?_) ?_
              · refine append_int_wp _ _ rfl (wC.heap.size + 1) vq _ rfl Hown.out (u:Int) _ rfl rfl Hlo.out HsD.out ?_
                intro v' w1 ho' hgr hfr hbb
                obtain ⟨a', l', c', rfl⟩ := ints_any ho'
                obtain ⟨cA, w2, hmu, hFin⟩ := HF.out _ w1 ho' hgr hfr hbb
                have HFin := Lib.hid hFin
                clear ho' hgr hfr hbb hFin
                refine hK _ _ ?_
                clear hK K
                refine wpAny_ready (rs := [10]) (by kernel_rfl) (by simp) ?_
                refine AllReady.cons rfl (fun K hK => ?_) ?_
                · go_simp
                  try rw [hmu]
                  try go_simp
                  refine hK _ _ ?_
                  clear hK K
                  refine wpAny_done (by kernel_rfl) ?_ _
                  (gi_wp2; gi_meet; case rel => exact HFin.out)
                exact AllReady.nil
              exact AllReady.nil
            refine AllReady.cons rfl (fun K hK => ?_) ?_
            · refine append_int_wp _ _ rfl (wC.heap.size + 1) vq _ rfl Hown.out (u:Int) _ rfl rfl Hlo.out HsD.out ?_
              intro v' w1 ho' hgr hfr hbb
              obtain ⟨a', l', c', rfl⟩ := ints_any ho'
              obtain ⟨cA, w2, hmu, hFin⟩ := HF.out _ w1 ho' hgr hfr hbb
              have HFin := Lib.hid hFin
              clear ho' hgr hfr hbb hFin
              refine hK _ _ ?_
              clear hK K
              refine wpAny_ready (rs := [1]) (by kernel_rfl) (by simp) ?_
              refine AllReady.cons rfl (fun K hK => ?_) ?_
              · go_simp
                refine hK _ _ ?_
                clear hK K
                refine wpAny_ready (rs := [10]) (by kernel_rfl) (by simp) ?_
                refine AllReady.cons rfl (fun K hK => ?_) ?_
                · go_simp
                  try rw [hmu]
                  try go_simp
                  refine hK _ _ ?_
                  clear hK K
                  refine wpAny_done (by kernel_rfl) ?_ _
                  (gi_wp2; gi_meet; case rel => exact HFin.out)
                exact AllReady.nil
              exact AllReady.nil
            exact AllReady.nil
          exact AllReady.nil
        exact AllReady.nil
      exact AllReady.nil
    case rest =>
      clear hB hlt
      obtain ⟨hT, hvN, hbox, hnN, hs4⟩ := HN.out
      have HT := Lib.hid (hT HP.out.2.2.2.2.1)
      have hnn : nN = n := by rw [hnN, HT.out.len, ← Hn.out]
      have Hvn : Hid (OwnInts wC W1.heap.size (.slice an nN cn) (treeL code)) := hvN
      have Hbox := Lib.hid hbox
      have Hs4 := Lib.hid hs4
      have HlT := Lib.hid HT.out.len
      have Hcut := Lib.hid hcut
      obtain ⟨g, rfl⟩ := han (by omega)
      have hg4 : W1.heap.size ≤ g ∧ g < wC.heap.size := World.ownsRow.lt Hvn.out g rfl
      have Hg4 := Lib.hid hg4
      clear hT hvN hbox hnN hs4 hcut hg4
      subst hnn
      have hend : ∀ w3, GStep wC W g0 (2 * L.length + 2) (gf code (L ++ [((u : Int), (v : Int))])) w3 → KeepsFrom W0.heap.size W w3 ∧ KM (gM g0 (wC.heap.size + 1)) W w3 ∧
          ∃ N V, N ≤ 2 * (pre ++ [(⟨((u : Int), (v : Int)), hx⟩ : EdgeOf code)]).length ∧ GI wC w3 g0 N V (gf code ((pre ++ [(⟨((u : Int), (v : Int)), hx⟩ : EdgeOf code)]).map (·.1))) := by
        rintro w3 ⟨h1, h2, N', V', h3, h4⟩
        refine ⟨by rw [Hs0.out]; exact h1, h2, N', V', ?_, ?_⟩
        · have := HP.out.2.2.1; simp; omega
        · rw [List.map_append, List.map_singleton, ← HP.out.1]; exact h4
      have Hend := Lib.hid hend
      have hlowg : ¬ (g0 ≤ g ∧ g < g0 + 3) ∧ ¬ (g0 ≤ b4 ∧ b4 < g0 + 3) ∧ b4 < wC.heap.size := by
        have := HB.out.size; have h6 := HBC.out.size; have h7 := Hg4.out; have h8 := Hs4.out
        have h9 : w.heap.size + 6 ≤ W1.heap.size := HB.out.size
        obtain ⟨h1, h2, h3, h4, h5⟩ := HG.out
        have hw1 : W1.heap.size ≤ b4 := HN1.out
        refine ⟨?_, ?_, by omega⟩ <;> omega
      have Hlg := Lib.hid hlowg
      clear hend hlowg HN hb3lt hb3no
      gi_wp2
      gi_loopg [7] (climbMeas code (u : Int)) (fun g bv wx => ∃ x : Int, g = climbMeas code x ∧ bv = .int .i64 x ∧ Climb code v u x ∧ GStep wC W g0 (2 * L.length + 1) (gf1 code L ((u : Int), (v : Int))) wx)
      case atStart => exact ⟨(u : Int), rfl, rfl, .inr ⟨u, rfl, by rw [← Hn.out]; exact hun, HP.out.2.2.2.2.2.1, Iff.rfl⟩, Hcut.out⟩
      case round =>
        obtain ⟨x, hgx, rfl, hcl, hst⟩ := hrel
        have Hgx := Lib.hid hgx
        have Hcx := Lib.hid hcl
        have Hst := Lib.hid hst
        clear hgx hcl Hcut
        obtain ⟨hk, hm, N1, V1, hN1, hG⟩ := hst
        by_cases hx0 : 0 ≤ x
        · obtain ⟨x, rfl⟩ := Int.eq_ofNat_of_zero_le hx0
          have hxn : x < nN := by
            rcases Hcx.out with ⟨h, _⟩ | ⟨y', h, h2, _⟩
            · omega
            · rw [Hn.out]; omega
          by_cases hxv : x = v
          · subst hxv
            have hback : isBack code ((u : Int), (x : Int)) = true := isBack_iff.2 (Climb.met Hcx.out)
            have hq1 : ((x : Int) != (x : Int)) = false := by simp
            have hq2 : ((x : Int) == (x : Int)) = true := by simp
            have hcb := (hG.cell (p := ⟨b3, 2, none⟩) HB3.out.1 HB3.out.2).trans HcT.out.2.2
            have hbW : b3 < wr.heap.size := by have := hG.size; have := HB3.out.1; omega
            obtain ⟨hl1, hl2⟩ := hG.looks (i := 2) (by omega) hvx (.cells #[.int .i64 (u : Int)] 3)
            have Hown : Hid (OwnInts wr.drew (wC.heap.size + 1) (V1 2 x) (gf1 code L ((u : Int), (x : Int)) 2 x)) := Lib.hid (World.ownsRow.drew (hG.gg.each 2 x (by omega)))
            have Hlo : Hid ((gf1 code L ((u : Int), (x : Int)) 2 x).length ≤ 1000000000000) := Nat.le_trans (gf1_len _ _ _ _ _) (by have := HP.out.2.1; omega)
            have HsD : Hid (wC.heap.size + 1 ≤ wr.drew.heap.size) := hG.size
            have hF := GStep.next (u := (u : Int)) hk hm hG hN1 Hlow.out (i := 2) (by omega) HB3.out.1 HB3.out.2 HcT.out.2.2 hvx (by have := HP.out; omega) (.cells #[.int .i64 (u : Int)] 3)
            have e12 := gf_back (code := code) (es := L) hback
            simp only at e12
            rw [e12] at hF
            rw [show g0 + 2 = g2 from by obtain ⟨h1, h2, h3, h4, h5⟩ := HG.out; omega] at hl1 hl2 hF
            have HF := Lib.hid hF
            generalize V1 2 x = vq at hl1 hl2 Hown HF
            clear hk hm hG hN1 hF e12 hback hx0
            gi_upto_region 11 with (fail)
            refine wpIn_region_as_any (by kernel_rfl) (by kernel_rfl) (by rintro ⟨a, w, h⟩; exact h) ?_
            refine wpAny_take (i := 0) rfl (by kernel_rfl) (by kernel_rfl) (by kernel_rfl) (fun _ _ _ h => h) (Or.inl ⟨by rfl, fun w => by go_simp; try rfl⟩) ?_
            refine wpAny_take (i := 2) rfl (by kernel_rfl) (by kernel_rfl) (by kernel_rfl) (fun _ _ _ h => h) (Or.inl ⟨by rfl, fun w => by go_simp; try rfl⟩) ?_
            refine wpAny_take (i := 3) rfl (by kernel_rfl) (by kernel_rfl) (by kernel_rfl) (fun _ _ _ h => h) (Or.inl ⟨by rfl, fun w => by go_simp; try rfl⟩) ?_
            refine wpAny_take (i := 5) rfl (by kernel_rfl) (by kernel_rfl) (by kernel_rfl) (fun _ _ _ h => h) (Or.inl ⟨by rfl, fun w => by go_simp; try rfl⟩) ?_
            refine wpAny_take (i := 7) rfl (by kernel_rfl) (by kernel_rfl) (by kernel_rfl) (fun _ _ _ h => h) (Or.inl ⟨by rfl, fun w => by go_simp; try rfl⟩) ?_
            refine wpAny_ready (rs := [1, 4, 8]) (by kernel_rfl) (by simp) ?_
            refine AllReady.cons rfl (fun K hK => ?_) ?_
            · go_simp
              refine hK _ _ ?_
              clear hK K
              refine wpAny_ready (rs := [4, 8]) (by kernel_rfl) (by simp) ?_
              refine AllReady.cons rfl (fun K hK => ?_) ?_
              · go_simp
                refine hK _ _ ?_
                clear hK K
                refine wpAny_ready (rs := [6, 8]) (by kernel_rfl) (by simp) ?_
                refine AllReady.cons rfl (fun K hK => ?_) ?_
                · go_simp
                  try (first | rw [hl1] | rw [hl2])
                  try go_simp
                  refine hK _ _ ?_
                  clear hK K
                  refine wpAny_ready (rs := [8]) (by kernel_rfl) (by simp) ?_
                  refine AllReady.cons rfl (fun K hK => ?_) ?_
                  · go_simp
                    refine hK _ _ ?_
                    clear hK K
                    refine wpAny_ready (rs := [9]) (by kernel_rfl) (by simp) ?_
                    refine AllReady.cons rfl (fun K hK => ?_) ?_
                    · refine append_int_wp _ _ rfl (wC.heap.size + 1) vq _ rfl Hown.out (u:Int) _ rfl rfl Hlo.out HsD.out ?_
                      intro v' w1 ho' hgr hfr hbb
                      obtain ⟨a', l', c', rfl⟩ := ints_any ho'
                      obtain ⟨cA, w2, hmu, hFin⟩ := HF.out _ w1 ho' hgr hfr hbb
                      have HFin := Lib.hid hFin
                      clear ho' hgr hfr hbb hFin
                      refine hK _ _ ?_
                      clear hK K
                      refine wpAny_ready (rs := [10]) (by kernel_rfl) (by simp) ?_
                      refine AllReady.cons rfl (fun K hK => ?_) ?_
                      · go_simp
                        try rw [hmu]
                        try go_simp
                        refine hK _ _ ?_
                        clear hK K
                        refine wpAny_done (by kernel_rfl) ?_ _
                        (gi_wp2; exact Hend.out _ HFin.out)
                      exact AllReady.nil
                    exact AllReady.nil
                  exact AllReady.nil
                refine AllReady.cons rfl (fun K hK => ?_) ?_
                · go_simp
                  refine hK _ _ ?_
                  clear hK K
                  refine wpAny_ready (rs := [6]) (by kernel_rfl) (by simp) ?_
                  refine AllReady.cons rfl (fun K hK => ?_) ?_
                  · go_simp
                    try (first | rw [hl1] | rw [hl2])
                    try go_simp
                    refine hK _ _ ?_
                    clear hK K
                    refine wpAny_ready (rs := [9]) (by kernel_rfl) (by simp) ?_
                    refine AllReady.cons rfl (fun K hK => ?_) ?_
                    · refine append_int_wp _ _ rfl (wC.heap.size + 1) vq _ rfl Hown.out (u:Int) _ rfl rfl Hlo.out HsD.out ?_
                      intro v' w1 ho' hgr hfr hbb
                      obtain ⟨a', l', c', rfl⟩ := ints_any ho'
                      obtain ⟨cA, w2, hmu, hFin⟩ := HF.out _ w1 ho' hgr hfr hbb
                      have HFin := Lib.hid hFin
                      clear ho' hgr hfr hbb hFin
                      refine hK _ _ ?_
                      clear hK K
                      refine wpAny_ready (rs := [10]) (by kernel_rfl) (by simp) ?_
                      refine AllReady.cons rfl (fun K hK => ?_) ?_
                      · go_simp
                        try rw [hmu]
                        try go_simp
                        refine hK _ _ ?_
                        clear hK K
                        refine wpAny_done (by kernel_rfl) ?_ _
                        (gi_wp2; exact Hend.out _ HFin.out)
                      exact AllReady.nil
                    exact AllReady.nil
                  exact AllReady.nil
                exact AllReady.nil
              refine AllReady.cons rfl (fun K hK => ?_) ?_
              · go_simp
                refine hK _ _ ?_
                clear hK K
                refine wpAny_ready (rs := [4]) (by kernel_rfl) (by simp) ?_
                refine AllReady.cons rfl (fun K hK => ?_) ?_
                · go_simp
                  refine hK _ _ ?_
                  clear hK K
                  refine wpAny_ready (rs := [6]) (by kernel_rfl) (by simp) ?_
                  refine AllReady.cons rfl (fun K hK => ?_) ?_
                  · go_simp
                    try (first | rw [hl1] | rw [hl2])
                    try go_simp
                    refine hK _ _ ?_
                    clear hK K
                    refine wpAny_ready (rs := [9]) (by kernel_rfl) (by simp) ?_
                    refine AllReady.cons rfl (fun K hK => ?_) ?_
                    · refine append_int_wp _ _ rfl (wC.heap.size + 1) vq _ rfl Hown.out (u:Int) _ rfl rfl Hlo.out HsD.out ?_
                      intro v' w1 ho' hgr hfr hbb
                      obtain ⟨a', l', c', rfl⟩ := ints_any ho'
                      obtain ⟨cA, w2, hmu, hFin⟩ := HF.out _ w1 ho' hgr hfr hbb
                      have HFin := Lib.hid hFin
                      clear ho' hgr hfr hbb hFin
                      refine hK _ _ ?_
                      clear hK K
                      refine wpAny_ready (rs := [10]) (by kernel_rfl) (by simp) ?_
                      refine AllReady.cons rfl (fun K hK => ?_) ?_
                      · go_simp
                        try rw [hmu]
                        try go_simp
                        refine hK _ _ ?_
                        clear hK K
                        refine wpAny_done (by kernel_rfl) ?_ _
                        (gi_wp2; exact Hend.out _ HFin.out)
                      exact AllReady.nil
                    exact AllReady.nil
                  exact AllReady.nil
                exact AllReady.nil
              exact AllReady.nil
            refine AllReady.cons rfl (fun K hK => ?_) ?_
            · go_simp
              refine hK _ _ ?_
              clear hK K
              refine wpAny_ready (rs := [1, 6, 8]) (by kernel_rfl) (by simp) ?_
              refine AllReady.cons rfl (fun K hK => ?_) ?_
              · go_simp
                refine hK _ _ ?_
                clear hK K
                refine wpAny_ready (rs := [6, 8]) (by kernel_rfl) (by simp) ?_
                refine AllReady.cons rfl (fun K hK => ?_) ?_
                · go_simp
                  try (first | rw [hl1] | rw [hl2])
                  try go_simp
                  refine hK _ _ ?_
                  clear hK K
                  refine wpAny_ready (rs := [8]) (by kernel_rfl) (by simp) ?_
                  refine AllReady.cons rfl (fun K hK => ?_) ?_
                  · go_simp
                    refine hK _ _ ?_
                    clear hK K
                    refine wpAny_ready (rs := [9]) (by kernel_rfl) (by simp) ?_
                    refine AllReady.cons rfl (fun K hK => ?_) ?_
                    · refine append_int_wp _ _ rfl (wC.heap.size + 1) vq _ rfl Hown.out (u:Int) _ rfl rfl Hlo.out HsD.out ?_
                      intro v' w1 ho' hgr hfr hbb
                      obtain ⟨a', l', c', rfl⟩ := ints_any ho'
                      obtain ⟨cA, w2, hmu, hFin⟩ := HF.out _ w1 ho' hgr hfr hbb
                      have HFin := Lib.hid hFin
                      clear ho' hgr hfr hbb hFin
                      refine hK _ _ ?_
                      clear hK K
                      refine wpAny_ready (rs := [10]) (by kernel_rfl) (by simp) ?_
                      refine AllReady.cons rfl (fun K hK => ?_) ?_
                      · go_simp
                        try rw [hmu]
                        try go_simp
                        refine hK _ _ ?_
                        clear hK K
                        refine wpAny_done (by kernel_rfl) ?_ _
                        (gi_wp2; exact Hend.out _ HFin.out)
                      exact AllReady.nil
                    exact AllReady.nil
                  exact AllReady.nil
                refine AllReady.cons rfl (fun K hK => ?_) ?_
                · go_simp
                  refine hK _ _ ?_
                  clear hK K
                  refine wpAny_ready (rs := [6]) (by kernel_rfl) (by simp) ?_
                  refine AllReady.cons rfl (fun K hK => ?_) ?_
                  · go_simp
                    try (first | rw [hl1] | rw [hl2])
                    try go_simp
                    refine hK _ _ ?_
                    clear hK K
                    refine wpAny_ready (rs := [9]) (by kernel_rfl) (by simp) ?_
                    refine AllReady.cons rfl (fun K hK => ?_) ?_
                    · refine append_int_wp _ _ rfl (wC.heap.size + 1) vq _ rfl Hown.out (u:Int) _ rfl rfl Hlo.out HsD.out ?_
                      intro v' w1 ho' hgr hfr hbb
                      obtain ⟨a', l', c', rfl⟩ := ints_any ho'
                      obtain ⟨cA, w2, hmu, hFin⟩ := HF.out _ w1 ho' hgr hfr hbb
                      have HFin := Lib.hid hFin
                      clear ho' hgr hfr hbb hFin
                      refine hK _ _ ?_
                      clear hK K
                      refine wpAny_ready (rs := [10]) (by kernel_rfl) (by simp) ?_
                      refine AllReady.cons rfl (fun K hK => ?_) ?_
                      · go_simp
                        try rw [hmu]
                        try go_simp
                        refine hK _ _ ?_
                        clear hK K
                        refine wpAny_done (by kernel_rfl) ?_ _
                        (gi_wp2; exact Hend.out _ HFin.out)
                      exact AllReady.nil
                    exact AllReady.nil
                  exact AllReady.nil
                exact AllReady.nil
              refine AllReady.cons rfl (fun K hK => ?_) ?_
              · go_simp
                try (first | rw [hl1] | rw [hl2])
                try go_simp
                refine hK _ _ ?_
                clear hK K
                refine wpAny_ready (rs := [1, 8]) (by kernel_rfl) (by simp) ?_
                refine AllReady.cons rfl (fun K hK => ?_) ?_
                · go_simp
                  refine hK _ _ ?_
                  clear hK K
                  refine wpAny_ready (rs := [8]) (by kernel_rfl) (by simp) ?_
                  refine AllReady.cons rfl (fun K hK => ?_) ?_
                  · go_simp
                    refine hK _ _ ?_
                    clear hK K
                    refine wpAny_ready (rs := [9]) (by kernel_rfl) (by simp) ?_
                    refine AllReady.cons rfl (fun K hK => ?_) ?_
                    · refine append_int_wp _ _ rfl (wC.heap.size + 1) vq _ rfl Hown.out (u:Int) _ rfl rfl Hlo.out HsD.out ?_
                      intro v' w1 ho' hgr hfr hbb
                      obtain ⟨a', l', c', rfl⟩ := ints_any ho'
                      obtain ⟨cA, w2, hmu, hFin⟩ := HF.out _ w1 ho' hgr hfr hbb
                      have HFin := Lib.hid hFin
                      clear ho' hgr hfr hbb hFin
                      refine hK _ _ ?_
                      clear hK K
                      refine wpAny_ready (rs := [10]) (by kernel_rfl) (by simp) ?_
                      refine AllReady.cons rfl (fun K hK => ?_) ?_
                      · go_simp
                        try rw [hmu]
                        try go_simp
                        refine hK _ _ ?_
                        clear hK K
                        refine wpAny_done (by kernel_rfl) ?_ _
                        (gi_wp2; exact Hend.out _ HFin.out)
                      exact AllReady.nil
                    exact AllReady.nil
                  exact AllReady.nil
                refine AllReady.cons rfl (fun K hK => ?_) ?_
                · go_simp
                  refine hK _ _ ?_
                  clear hK K
                  refine wpAny_ready (rs := [1, 9]) (by kernel_rfl) (by simp) ?_
                  refine AllReady.cons rfl (fun K hK => ?_) ?_
                  · go_simp
                    refine hK _ _ ?_
                    clear hK K
                    refine wpAny_ready (rs := [9]) (by kernel_rfl) (by simp) ?_
                    refine AllReady.cons rfl (fun K hK => ?_) ?_
                    · refine append_int_wp _ _ rfl (wC.heap.size + 1) vq _ rfl Hown.out (u:Int) _ rfl rfl Hlo.out HsD.out ?_
                      intro v' w1 ho' hgr hfr hbb
                      obtain ⟨a', l', c', rfl⟩ := ints_any ho'
                      obtain ⟨cA, w2, hmu, hFin⟩ := HF.out _ w1 ho' hgr hfr hbb
                      have HFin := Lib.hid hFin
                      clear ho' hgr hfr hbb hFin
                      refine hK _ _ ?_
                      clear hK K
                      refine wpAny_ready (rs := [10]) (by kernel_rfl) (by simp) ?_
                      refine AllReady.cons rfl (fun K hK => ?_) ?_
                      · go_simp
                        try rw [hmu]
                        try go_simp
                        refine hK _ _ ?_
                        clear hK K
                        refine wpAny_done (by kernel_rfl) ?_ _
                        (gi_wp2; exact Hend.out _ HFin.out)
                      exact AllReady.nil
                    exact AllReady.nil
                  refine AllReady.cons rfl (fun K hK => ?_) ?_
                  · refine append_int_wp _ _ rfl (wC.heap.size + 1) vq _ rfl Hown.out (u:Int) _ rfl rfl Hlo.out HsD.out ?_
                    intro v' w1 ho' hgr hfr hbb
                    obtain ⟨a', l', c', rfl⟩ := ints_any ho'
                    obtain ⟨cA, w2, hmu, hFin⟩ := HF.out _ w1 ho' hgr hfr hbb
                    have HFin := Lib.hid hFin
                    clear ho' hgr hfr hbb hFin
                    refine hK _ _ ?_
                    clear hK K
                    refine wpAny_ready (rs := [1]) (by kernel_rfl) (by simp) ?_
                    refine AllReady.cons rfl (fun K hK => ?_) ?_
                    · go_simp
                      refine hK _ _ ?_
                      clear hK K
                      refine wpAny_ready (rs := [10]) (by kernel_rfl) (by simp) ?_
                      refine AllReady.cons rfl (fun K hK => ?_) ?_
                      · go_simp
                        try rw [hmu]
                        try go_simp
                        refine hK _ _ ?_
                        clear hK K
                        refine wpAny_done (by kernel_rfl) ?_ _
                        (gi_wp2; exact Hend.out _ HFin.out)
                      exact AllReady.nil
                    exact AllReady.nil
                  exact AllReady.nil
                exact AllReady.nil
              refine AllReady.cons rfl (fun K hK => ?_) ?_
              · go_simp
                refine hK _ _ ?_
                clear hK K
                refine wpAny_ready (rs := [1, 6]) (by kernel_rfl) (by simp) ?_
                refine AllReady.cons rfl (fun K hK => ?_) ?_
                · go_simp
                  refine hK _ _ ?_
                  clear hK K
                  refine wpAny_ready (rs := [6]) (by kernel_rfl) (by simp) ?_
                  refine AllReady.cons rfl (fun K hK => ?_) ?_
                  · go_simp
                    try (first | rw [hl1] | rw [hl2])
                    try go_simp
                    refine hK _ _ ?_
                    clear hK K
                    refine wpAny_ready (rs := [9]) (by kernel_rfl) (by simp) ?_
                    refine AllReady.cons rfl (fun K hK => ?_) ?_
                    · refine append_int_wp _ _ rfl (wC.heap.size + 1) vq _ rfl Hown.out (u:Int) _ rfl rfl Hlo.out HsD.out ?_
                      intro v' w1 ho' hgr hfr hbb
                      obtain ⟨a', l', c', rfl⟩ := ints_any ho'
                      obtain ⟨cA, w2, hmu, hFin⟩ := HF.out _ w1 ho' hgr hfr hbb
                      have HFin := Lib.hid hFin
                      clear ho' hgr hfr hbb hFin
                      refine hK _ _ ?_
                      clear hK K
                      refine wpAny_ready (rs := [10]) (by kernel_rfl) (by simp) ?_
                      refine AllReady.cons rfl (fun K hK => ?_) ?_
                      · go_simp
                        try rw [hmu]
                        try go_simp
                        refine hK _ _ ?_
                        clear hK K
                        refine wpAny_done (by kernel_rfl) ?_ _
                        (gi_wp2; exact Hend.out _ HFin.out)
                      exact AllReady.nil
                    exact AllReady.nil
                  exact AllReady.nil
                refine AllReady.cons rfl (fun K hK => ?_) ?_
                · go_simp
                  try (first | rw [hl1] | rw [hl2])
                  try go_simp
                  refine hK _ _ ?_
                  clear hK K
                  refine wpAny_ready (rs := [1, 9]) (by kernel_rfl) (by simp) ?_
                  refine AllReady.cons rfl (fun K hK => ?_) ?_
                  · go_simp
                    refine hK _ _ ?_
                    clear hK K
                    refine wpAny_ready (rs := [9]) (by kernel_rfl) (by simp) ?_
                    refine AllReady.cons rfl (fun K hK => ?_) ?_
                    · refine append_int_wp _ _ rfl (wC.heap.size + 1) vq _ rfl Hown.out (u:Int) _ rfl rfl Hlo.out HsD.out ?_
                      intro v' w1 ho' hgr hfr hbb
                      obtain ⟨a', l', c', rfl⟩ := ints_any ho'
                      obtain ⟨cA, w2, hmu, hFin⟩ := HF.out _ w1 ho' hgr hfr hbb
                      have HFin := Lib.hid hFin
                      clear ho' hgr hfr hbb hFin
                      refine hK _ _ ?_
                      clear hK K
                      refine wpAny_ready (rs := [10]) (by kernel_rfl) (by simp) ?_
                      refine AllReady.cons rfl (fun K hK => ?_) ?_
                      · go_simp
                        try rw [hmu]
                        try go_simp
                        refine hK _ _ ?_
                        clear hK K
                        refine wpAny_done (by kernel_rfl) ?_ _
                        (gi_wp2; exact Hend.out _ HFin.out)
                      exact AllReady.nil
                    exact AllReady.nil
                  refine AllReady.cons rfl (fun K hK => ?_) ?_
                  · refine append_int_wp _ _ rfl (wC.heap.size + 1) vq _ rfl Hown.out (u:Int) _ rfl rfl Hlo.out HsD.out ?_
                    intro v' w1 ho' hgr hfr hbb
                    obtain ⟨a', l', c', rfl⟩ := ints_any ho'
                    obtain ⟨cA, w2, hmu, hFin⟩ := HF.out _ w1 ho' hgr hfr hbb
                    have HFin := Lib.hid hFin
                    clear ho' hgr hfr hbb hFin
                    refine hK _ _ ?_
                    clear hK K
                    refine wpAny_ready (rs := [1]) (by kernel_rfl) (by simp) ?_
                    refine AllReady.cons rfl (fun K hK => ?_) ?_
                    · go_simp
                      refine hK _ _ ?_
                      clear hK K
                      refine wpAny_ready (rs := [10]) (by kernel_rfl) (by simp) ?_
                      refine AllReady.cons rfl (fun K hK => ?_) ?_
                      · go_simp
                        try rw [hmu]
                        try go_simp
                        refine hK _ _ ?_
                        clear hK K
                        refine wpAny_done (by kernel_rfl) ?_ _
                        (gi_wp2; exact Hend.out _ HFin.out)
                      exact AllReady.nil
                    exact AllReady.nil
                  exact AllReady.nil
                exact AllReady.nil
              exact AllReady.nil
            refine AllReady.cons rfl (fun K hK => ?_) ?_
            · go_simp
              refine hK _ _ ?_
              clear hK K
              refine wpAny_ready (rs := [1, 4]) (by kernel_rfl) (by simp) ?_
              refine AllReady.cons rfl (fun K hK => ?_) ?_
              · go_simp
                refine hK _ _ ?_
                clear hK K
                refine wpAny_ready (rs := [4]) (by kernel_rfl) (by simp) ?_
                refine AllReady.cons rfl (fun K hK => ?_) ?_
                · go_simp
                  refine hK _ _ ?_
                  clear hK K
                  refine wpAny_ready (rs := [6]) (by kernel_rfl) (by simp) ?_
                  refine AllReady.cons rfl (fun K hK => ?_) ?_
                  · go_simp
                    try (first | rw [hl1] | rw [hl2])
                    try go_simp
                    refine hK _ _ ?_
                    clear hK K
                    refine wpAny_ready (rs := [9]) (by kernel_rfl) (by simp) ?_
                    refine AllReady.cons rfl (fun K hK => ?_) ?_
                    · refine append_int_wp _ _ rfl (wC.heap.size + 1) vq _ rfl Hown.out (u:Int) _ rfl rfl Hlo.out HsD.out ?_
                      intro v' w1 ho' hgr hfr hbb
                      obtain ⟨a', l', c', rfl⟩ := ints_any ho'
                      obtain ⟨cA, w2, hmu, hFin⟩ := HF.out _ w1 ho' hgr hfr hbb
                      have HFin := Lib.hid hFin
                      clear ho' hgr hfr hbb hFin
                      refine hK _ _ ?_
                      clear hK K
                      refine wpAny_ready (rs := [10]) (by kernel_rfl) (by simp) ?_
                      refine AllReady.cons rfl (fun K hK => ?_) ?_
                      · go_simp
                        try rw [hmu]
                        try go_simp
                        refine hK _ _ ?_
                        clear hK K
                        refine wpAny_done (by kernel_rfl) ?_ _
                        (gi_wp2; exact Hend.out _ HFin.out)
                      exact AllReady.nil
                    exact AllReady.nil
                  exact AllReady.nil
                exact AllReady.nil
              refine AllReady.cons rfl (fun K hK => ?_) ?_
              · go_simp
                refine hK _ _ ?_
                clear hK K
                refine wpAny_ready (rs := [1, 6]) (by kernel_rfl) (by simp) ?_
                refine AllReady.cons rfl (fun K hK => ?_) ?_
                · go_simp
                  refine hK _ _ ?_
                  clear hK K
                  refine wpAny_ready (rs := [6]) (by kernel_rfl) (by simp) ?_
                  refine AllReady.cons rfl (fun K hK => ?_) ?_
                  · go_simp
                    try (first | rw [hl1] | rw [hl2])
                    try go_simp
                    refine hK _ _ ?_
                    clear hK K
                    refine wpAny_ready (rs := [9]) (by kernel_rfl) (by simp) ?_
                    refine AllReady.cons rfl (fun K hK => ?_) ?_
                    · refine append_int_wp _ _ rfl (wC.heap.size + 1) vq _ rfl Hown.out (u:Int) _ rfl rfl Hlo.out HsD.out ?_
                      intro v' w1 ho' hgr hfr hbb
                      obtain ⟨a', l', c', rfl⟩ := ints_any ho'
                      obtain ⟨cA, w2, hmu, hFin⟩ := HF.out _ w1 ho' hgr hfr hbb
                      have HFin := Lib.hid hFin
                      clear ho' hgr hfr hbb hFin
                      refine hK _ _ ?_
                      clear hK K
                      refine wpAny_ready (rs := [10]) (by kernel_rfl) (by simp) ?_
                      refine AllReady.cons rfl (fun K hK => ?_) ?_
                      · go_simp
                        try rw [hmu]
                        try go_simp
                        refine hK _ _ ?_
                        clear hK K
                        refine wpAny_done (by kernel_rfl) ?_ _
                        (gi_wp2; exact Hend.out _ HFin.out)
                      exact AllReady.nil
                    exact AllReady.nil
                  exact AllReady.nil
                refine AllReady.cons rfl (fun K hK => ?_) ?_
                · go_simp
                  try (first | rw [hl1] | rw [hl2])
                  try go_simp
                  refine hK _ _ ?_
                  clear hK K
                  refine wpAny_ready (rs := [1, 9]) (by kernel_rfl) (by simp) ?_
                  refine AllReady.cons rfl (fun K hK => ?_) ?_
                  · go_simp
                    refine hK _ _ ?_
                    clear hK K
                    refine wpAny_ready (rs := [9]) (by kernel_rfl) (by simp) ?_
                    refine AllReady.cons rfl (fun K hK => ?_) ?_
                    · refine append_int_wp _ _ rfl (wC.heap.size + 1) vq _ rfl Hown.out (u:Int) _ rfl rfl Hlo.out HsD.out ?_
                      intro v' w1 ho' hgr hfr hbb
                      obtain ⟨a', l', c', rfl⟩ := ints_any ho'
                      obtain ⟨cA, w2, hmu, hFin⟩ := HF.out _ w1 ho' hgr hfr hbb
                      have HFin := Lib.hid hFin
                      clear ho' hgr hfr hbb hFin
                      refine hK _ _ ?_
                      clear hK K
                      refine wpAny_ready (rs := [10]) (by kernel_rfl) (by simp) ?_
                      refine AllReady.cons rfl (fun K hK => ?_) ?_
                      · go_simp
                        try rw [hmu]
                        try go_simp
                        refine hK _ _ ?_
                        clear hK K
                        refine wpAny_done (by kernel_rfl) ?_ _
                        (gi_wp2; exact Hend.out _ HFin.out)
                      exact AllReady.nil
                    exact AllReady.nil
                  refine AllReady.cons rfl (fun K hK => ?_) ?_
                  · refine append_int_wp _ _ rfl (wC.heap.size + 1) vq _ rfl Hown.out (u:Int) _ rfl rfl Hlo.out HsD.out ?_
                    intro v' w1 ho' hgr hfr hbb
                    obtain ⟨a', l', c', rfl⟩ := ints_any ho'
                    obtain ⟨cA, w2, hmu, hFin⟩ := HF.out _ w1 ho' hgr hfr hbb
                    have HFin := Lib.hid hFin
                    clear ho' hgr hfr hbb hFin
                    refine hK _ _ ?_
                    clear hK K
                    refine wpAny_ready (rs := [1]) (by kernel_rfl) (by simp) ?_
                    refine AllReady.cons rfl (fun K hK => ?_) ?_
                    · go_simp
                      refine hK _ _ ?_
                      clear hK K
                      refine wpAny_ready (rs := [10]) (by kernel_rfl) (by simp) ?_
                      refine AllReady.cons rfl (fun K hK => ?_) ?_
                      · go_simp
                        try rw [hmu]
                        try go_simp
                        refine hK _ _ ?_
                        clear hK K
                        refine wpAny_done (by kernel_rfl) ?_ _
                        (gi_wp2; exact Hend.out _ HFin.out)
                      exact AllReady.nil
                    exact AllReady.nil
                  exact AllReady.nil
                exact AllReady.nil
              exact AllReady.nil
            exact AllReady.nil
          · have hq1 : ((x : Int) != (v : Int)) = true := by simp; omega
            have hbx := (hG.cell (p := ⟨b4, 0, none⟩) Hlg.out.2.2 Hlg.out.2.1).trans Hbox.out
            have hcx := (hG.cell (p := ⟨g, x, none⟩) Hg4.out.2 Hlg.out.1).trans (OwnInts.cell Hvn.out (k := x) (by rw [HlT.out, ← Hn.out]; exact hxn))
            obtain ⟨up1, up2⟩ := Climb.up (by rw [← Hn.out]; omega) HT.out Hcx.out hxv
            have Hup := Lib.hid (And.intro up1 up2)
            generalize (treeL code).getD x 0 = z at hcx Hup
            clear hk hm hG up1 up2 hN1
            gi_wp2
            gi_roundg (climbMeas code z)
            case measure => have := Hup.out.2; have := Hgx.out; omega
            case rel => exact ⟨z, rfl, rfl, Hup.out.1, Hst.out⟩
        · have hback : isBack code ((u : Int), (v : Int)) = false := by
            cases hb : isBack code ((u : Int), (v : Int))
            · rfl
            · rcases Hcx.out with ⟨_, h⟩ | ⟨y, h, _⟩
              · exact absurd (isBack_iff.1 hb) h
              · omega
          have hq1 : ((x : Int) != (v : Int)) = true := by simp; omega
          have hq2 : ((x : Int) == (v : Int)) = false := by simp; omega
          have hq3 : decide ((0 : Int) ≤ x) = false := by simp; omega
          have hcb := (hG.cell (p := ⟨b3, 1, none⟩) HB3.out.1 HB3.out.2).trans HcT.out.2.1
          have hbW : b3 < wr.heap.size := by have := hG.size; have := HB3.out.1; omega
          obtain ⟨hl1, hl2⟩ := hG.looks (i := 1) (by omega) hux (.cells #[.int .i64 (v : Int)] 3)
          have Hown : Hid (OwnInts wr.drew (wC.heap.size + 1) (V1 1 u) (gf1 code L ((u : Int), (v : Int)) 1 u)) := Lib.hid (World.ownsRow.drew (hG.gg.each 1 u (by omega)))
          have Hlo : Hid ((gf1 code L ((u : Int), (v : Int)) 1 u).length ≤ 1000000000000) := Nat.le_trans (gf1_len _ _ _ _ _) (by have := HP.out.2.1; omega)
          have HsD : Hid (wC.heap.size + 1 ≤ wr.drew.heap.size) := hG.size
          have hF := GStep.next (u := (v : Int)) hk hm hG hN1 Hlow.out (i := 1) (by omega) HB3.out.1 HB3.out.2 HcT.out.2.1 hux (by have := HP.out; omega) (.cells #[.int .i64 (v : Int)] 3)
          have e12 := gf_ahead (code := code) (es := L) hback
          simp only at e12
          rw [e12] at hF
          rw [show g0 + 1 = g1 from by obtain ⟨h1, h2, h3, h4, h5⟩ := HG.out; omega] at hl1 hl2 hF
          have HF := Lib.hid hF
          generalize V1 1 u = vq at hl1 hl2 Hown HF
          clear hk hm hG hN1 hF e12 hback hx0
          gi_upto_region 12 with (fail)
          refine wpIn_region_as_any (by kernel_rfl) (by kernel_rfl) (by rintro ⟨a, w, h⟩; exact h) ?_
          refine wpAny_take (i := 0) rfl (by kernel_rfl) (by kernel_rfl) (by kernel_rfl) (fun _ _ _ h => h) (Or.inl ⟨by rfl, fun w => by go_simp; try rfl⟩) ?_
          refine wpAny_take (i := 2) rfl (by kernel_rfl) (by kernel_rfl) (by kernel_rfl) (fun _ _ _ h => h) (Or.inl ⟨by rfl, fun w => by go_simp; try rfl⟩) ?_
          refine wpAny_take (i := 3) rfl (by kernel_rfl) (by kernel_rfl) (by kernel_rfl) (fun _ _ _ h => h) (Or.inl ⟨by rfl, fun w => by go_simp; try rfl⟩) ?_
          refine wpAny_take (i := 5) rfl (by kernel_rfl) (by kernel_rfl) (by kernel_rfl) (fun _ _ _ h => h) (Or.inl ⟨by rfl, fun w => by go_simp; try rfl⟩) ?_
          refine wpAny_take (i := 7) rfl (by kernel_rfl) (by kernel_rfl) (by kernel_rfl) (fun _ _ _ h => h) (Or.inl ⟨by rfl, fun w => by go_simp; try rfl⟩) ?_
          refine wpAny_ready (rs := [1, 4, 8]) (by kernel_rfl) (by simp) ?_
          refine AllReady.cons rfl (fun K hK => ?_) ?_
          · go_simp
            refine hK _ _ ?_
            clear hK K
            refine wpAny_ready (rs := [4, 8]) (by kernel_rfl) (by simp) ?_
            refine AllReady.cons rfl (fun K hK => ?_) ?_
            · go_simp
              refine hK _ _ ?_
              clear hK K
              refine wpAny_ready (rs := [6, 8]) (by kernel_rfl) (by simp) ?_
              refine AllReady.cons rfl (fun K hK => ?_) ?_
              · go_simp
                try (first | rw [hl1] | rw [hl2])
                try go_simp
                refine hK _ _ ?_
                clear hK K
                refine wpAny_ready (rs := [8]) (by kernel_rfl) (by simp) ?_
                refine AllReady.cons rfl (fun K hK => ?_) ?_
                · go_simp
                  refine hK _ _ ?_
                  clear hK K
                  refine wpAny_ready (rs := [9]) (by kernel_rfl) (by simp) ?_
                  refine AllReady.cons rfl (fun K hK => ?_) ?_
                  · refine append_int_wp _ _ rfl (wC.heap.size + 1) vq _ rfl Hown.out (v:Int) _ rfl rfl Hlo.out HsD.out ?_
                    intro v' w1 ho' hgr hfr hbb
                    obtain ⟨a', l', c', rfl⟩ := ints_any ho'
                    obtain ⟨cA, w2, hmu, hFin⟩ := HF.out _ w1 ho' hgr hfr hbb
                    have HFin := Lib.hid hFin
                    clear ho' hgr hfr hbb hFin
                    refine hK _ _ ?_
                    clear hK K
                    refine wpAny_ready (rs := [10]) (by kernel_rfl) (by simp) ?_
                    refine AllReady.cons rfl (fun K hK => ?_) ?_
                    · go_simp
                      try rw [hmu]
                      try go_simp
                      refine hK _ _ ?_
                      clear hK K
                      refine wpAny_done (by kernel_rfl) ?_ _
                      (gi_wp2; exact Hend.out _ HFin.out)
                    exact AllReady.nil
                  exact AllReady.nil
                exact AllReady.nil
              refine AllReady.cons rfl (fun K hK => ?_) ?_
              · go_simp
                refine hK _ _ ?_
                clear hK K
                refine wpAny_ready (rs := [6]) (by kernel_rfl) (by simp) ?_
                refine AllReady.cons rfl (fun K hK => ?_) ?_
                · go_simp
                  try (first | rw [hl1] | rw [hl2])
                  try go_simp
                  refine hK _ _ ?_
                  clear hK K
                  refine wpAny_ready (rs := [9]) (by kernel_rfl) (by simp) ?_
                  refine AllReady.cons rfl (fun K hK => ?_) ?_
                  · refine append_int_wp _ _ rfl (wC.heap.size + 1) vq _ rfl Hown.out (v:Int) _ rfl rfl Hlo.out HsD.out ?_
                    intro v' w1 ho' hgr hfr hbb
                    obtain ⟨a', l', c', rfl⟩ := ints_any ho'
                    obtain ⟨cA, w2, hmu, hFin⟩ := HF.out _ w1 ho' hgr hfr hbb
                    have HFin := Lib.hid hFin
                    clear ho' hgr hfr hbb hFin
                    refine hK _ _ ?_
                    clear hK K
                    refine wpAny_ready (rs := [10]) (by kernel_rfl) (by simp) ?_
                    refine AllReady.cons rfl (fun K hK => ?_) ?_
                    · go_simp
                      try rw [hmu]
                      try go_simp
                      refine hK _ _ ?_
                      clear hK K
                      refine wpAny_done (by kernel_rfl) ?_ _
                      (gi_wp2; exact Hend.out _ HFin.out)
                    exact AllReady.nil
                  exact AllReady.nil
                exact AllReady.nil
              exact AllReady.nil
            refine AllReady.cons rfl (fun K hK => ?_) ?_
            · go_simp
              refine hK _ _ ?_
              clear hK K
              refine wpAny_ready (rs := [4]) (by kernel_rfl) (by simp) ?_
              refine AllReady.cons rfl (fun K hK => ?_) ?_
              · go_simp
                refine hK _ _ ?_
                clear hK K
                refine wpAny_ready (rs := [6]) (by kernel_rfl) (by simp) ?_
                refine AllReady.cons rfl (fun K hK => ?_) ?_
                · go_simp
                  try (first | rw [hl1] | rw [hl2])
                  try go_simp
                  refine hK _ _ ?_
                  clear hK K
                  refine wpAny_ready (rs := [9]) (by kernel_rfl) (by simp) ?_
                  refine AllReady.cons rfl (fun K hK => ?_) ?_
                  · refine append_int_wp _ _ rfl (wC.heap.size + 1) vq _ rfl Hown.out (v:Int) _ rfl rfl Hlo.out HsD.out ?_
                    intro v' w1 ho' hgr hfr hbb
                    obtain ⟨a', l', c', rfl⟩ := ints_any ho'
                    obtain ⟨cA, w2, hmu, hFin⟩ := HF.out _ w1 ho' hgr hfr hbb
                    have HFin := Lib.hid hFin
                    clear ho' hgr hfr hbb hFin
                    refine hK _ _ ?_
                    clear hK K
                    refine wpAny_ready (rs := [10]) (by kernel_rfl) (by simp) ?_
                    refine AllReady.cons rfl (fun K hK => ?_) ?_
                    · go_simp
                      try rw [hmu]
                      try go_simp
                      refine hK _ _ ?_
                      clear hK K
                      refine wpAny_done (by kernel_rfl) ?_ _
                      (gi_wp2; exact Hend.out _ HFin.out)
                    exact AllReady.nil
                  exact AllReady.nil
                exact AllReady.nil
              exact AllReady.nil
            exact AllReady.nil
          refine AllReady.cons rfl (fun K hK => ?_) ?_
          · go_simp
            refine hK _ _ ?_
            clear hK K
            refine wpAny_ready (rs := [1, 6, 8]) (by kernel_rfl) (by simp) ?_
            refine AllReady.cons rfl (fun K hK => ?_) ?_
            · go_simp
              refine hK _ _ ?_
              clear hK K
              refine wpAny_ready (rs := [6, 8]) (by kernel_rfl) (by simp) ?_
              refine AllReady.cons rfl (fun K hK => ?_) ?_
              · go_simp
                try (first | rw [hl1] | rw [hl2])
                try go_simp
                refine hK _ _ ?_
                clear hK K
                refine wpAny_ready (rs := [8]) (by kernel_rfl) (by simp) ?_
                refine AllReady.cons rfl (fun K hK => ?_) ?_
                · go_simp
                  refine hK _ _ ?_
                  clear hK K
                  refine wpAny_ready (rs := [9]) (by kernel_rfl) (by simp) ?_
                  refine AllReady.cons rfl (fun K hK => ?_) ?_
                  · refine append_int_wp _ _ rfl (wC.heap.size + 1) vq _ rfl Hown.out (v:Int) _ rfl rfl Hlo.out HsD.out ?_
                    intro v' w1 ho' hgr hfr hbb
                    obtain ⟨a', l', c', rfl⟩ := ints_any ho'
                    obtain ⟨cA, w2, hmu, hFin⟩ := HF.out _ w1 ho' hgr hfr hbb
                    have HFin := Lib.hid hFin
                    clear ho' hgr hfr hbb hFin
                    refine hK _ _ ?_
                    clear hK K
                    refine wpAny_ready (rs := [10]) (by kernel_rfl) (by simp) ?_
                    refine AllReady.cons rfl (fun K hK => ?_) ?_
                    · go_simp
                      try rw [hmu]
                      try go_simp
                      refine hK _ _ ?_
                      clear hK K
                      refine wpAny_done (by kernel_rfl) ?_ _
                      (gi_wp2; exact Hend.out _ HFin.out)
                    exact AllReady.nil
                  exact AllReady.nil
                exact AllReady.nil
              refine AllReady.cons rfl (fun K hK => ?_) ?_
              · go_simp
                refine hK _ _ ?_
                clear hK K
                refine wpAny_ready (rs := [6]) (by kernel_rfl) (by simp) ?_
                refine AllReady.cons rfl (fun K hK => ?_) ?_
                · go_simp
                  try (first | rw [hl1] | rw [hl2])
                  try go_simp
                  refine hK _ _ ?_
                  clear hK K
                  refine wpAny_ready (rs := [9]) (by kernel_rfl) (by simp) ?_
                  refine AllReady.cons rfl (fun K hK => ?_) ?_
                  · refine append_int_wp _ _ rfl (wC.heap.size + 1) vq _ rfl Hown.out (v:Int) _ rfl rfl Hlo.out HsD.out ?_
                    intro v' w1 ho' hgr hfr hbb
                    obtain ⟨a', l', c', rfl⟩ := ints_any ho'
                    obtain ⟨cA, w2, hmu, hFin⟩ := HF.out _ w1 ho' hgr hfr hbb
                    have HFin := Lib.hid hFin
                    clear ho' hgr hfr hbb hFin
                    refine hK _ _ ?_
                    clear hK K
                    refine wpAny_ready (rs := [10]) (by kernel_rfl) (by simp) ?_
                    refine AllReady.cons rfl (fun K hK => ?_) ?_
                    · go_simp
                      try rw [hmu]
                      try go_simp
                      refine hK _ _ ?_
                      clear hK K
                      refine wpAny_done (by kernel_rfl) ?_ _
                      (gi_wp2; exact Hend.out _ HFin.out)
                    exact AllReady.nil
                  exact AllReady.nil
                exact AllReady.nil
              exact AllReady.nil
            refine AllReady.cons rfl (fun K hK => ?_) ?_
            · go_simp
              try (first | rw [hl1] | rw [hl2])
              try go_simp
              refine hK _ _ ?_
              clear hK K
              refine wpAny_ready (rs := [1, 8]) (by kernel_rfl) (by simp) ?_
              refine AllReady.cons rfl (fun K hK => ?_) ?_
              · go_simp
                refine hK _ _ ?_
                clear hK K
                refine wpAny_ready (rs := [8]) (by kernel_rfl) (by simp) ?_
                refine AllReady.cons rfl (fun K hK => ?_) ?_
                · go_simp
                  refine hK _ _ ?_
                  clear hK K
                  refine wpAny_ready (rs := [9]) (by kernel_rfl) (by simp) ?_
                  refine AllReady.cons rfl (fun K hK => ?_) ?_
                  · refine append_int_wp _ _ rfl (wC.heap.size + 1) vq _ rfl Hown.out (v:Int) _ rfl rfl Hlo.out HsD.out ?_
                    intro v' w1 ho' hgr hfr hbb
                    obtain ⟨a', l', c', rfl⟩ := ints_any ho'
                    obtain ⟨cA, w2, hmu, hFin⟩ := HF.out _ w1 ho' hgr hfr hbb
                    have HFin := Lib.hid hFin
                    clear ho' hgr hfr hbb hFin
                    refine hK _ _ ?_
                    clear hK K
                    refine wpAny_ready (rs := [10]) (by kernel_rfl) (by simp) ?_
                    refine AllReady.cons rfl (fun K hK => ?_) ?_
                    · go_simp
                      try rw [hmu]
                      try go_simp
                      refine hK _ _ ?_
                      clear hK K
                      refine wpAny_done (by kernel_rfl) ?_ _
                      (gi_wp2; exact Hend.out _ HFin.out)
                    exact AllReady.nil
                  exact AllReady.nil
                exact AllReady.nil
              refine AllReady.cons rfl (fun K hK => ?_) ?_
              · go_simp
                refine hK _ _ ?_
                clear hK K
                refine wpAny_ready (rs := [1, 9]) (by kernel_rfl) (by simp) ?_
                refine AllReady.cons rfl (fun K hK => ?_) ?_
                · go_simp
                  refine hK _ _ ?_
                  clear hK K
                  refine wpAny_ready (rs := [9]) (by kernel_rfl) (by simp) ?_
                  refine AllReady.cons rfl (fun K hK => ?_) ?_
                  · refine append_int_wp _ _ rfl (wC.heap.size + 1) vq _ rfl Hown.out (v:Int) _ rfl rfl Hlo.out HsD.out ?_
                    intro v' w1 ho' hgr hfr hbb
                    obtain ⟨a', l', c', rfl⟩ := ints_any ho'
                    obtain ⟨cA, w2, hmu, hFin⟩ := HF.out _ w1 ho' hgr hfr hbb
                    have HFin := Lib.hid hFin
                    clear ho' hgr hfr hbb hFin
                    refine hK _ _ ?_
                    clear hK K
                    refine wpAny_ready (rs := [10]) (by kernel_rfl) (by simp) ?_
                    refine AllReady.cons rfl (fun K hK => ?_) ?_
                    · go_simp
                      try rw [hmu]
                      try go_simp
                      refine hK _ _ ?_
                      clear hK K
                      refine wpAny_done (by kernel_rfl) ?_ _
                      (gi_wp2; exact Hend.out _ HFin.out)
                    exact AllReady.nil
                  exact AllReady.nil
                refine AllReady.cons rfl (fun K hK => ?_) ?_
                · refine append_int_wp _ _ rfl (wC.heap.size + 1) vq _ rfl Hown.out (v:Int) _ rfl rfl Hlo.out HsD.out ?_
                  intro v' w1 ho' hgr hfr hbb
                  obtain ⟨a', l', c', rfl⟩ := ints_any ho'
                  obtain ⟨cA, w2, hmu, hFin⟩ := HF.out _ w1 ho' hgr hfr hbb
                  have HFin := Lib.hid hFin
                  clear ho' hgr hfr hbb hFin
                  refine hK _ _ ?_
                  clear hK K
                  refine wpAny_ready (rs := [1]) (by kernel_rfl) (by simp) ?_
                  refine AllReady.cons rfl (fun K hK => ?_) ?_
                  · go_simp
                    refine hK _ _ ?_
                    clear hK K
                    refine wpAny_ready (rs := [10]) (by kernel_rfl) (by simp) ?_
                    refine AllReady.cons rfl (fun K hK => ?_) ?_
                    · go_simp
                      try rw [hmu]
                      try go_simp
                      refine hK _ _ ?_
                      clear hK K
                      refine wpAny_done (by kernel_rfl) ?_ _
                      (gi_wp2; exact Hend.out _ HFin.out)
                    exact AllReady.nil
                  exact AllReady.nil
                exact AllReady.nil
              exact AllReady.nil
            refine AllReady.cons rfl (fun K hK => ?_) ?_
            · go_simp
              refine hK _ _ ?_
              clear hK K
              refine wpAny_ready (rs := [1, 6]) (by kernel_rfl) (by simp) ?_
              refine AllReady.cons rfl (fun K hK => ?_) ?_
              · go_simp
                refine hK _ _ ?_
                clear hK K
                refine wpAny_ready (rs := [6]) (by kernel_rfl) (by simp) ?_
                refine AllReady.cons rfl (fun K hK => ?_) ?_
                · go_simp
                  try (first | rw [hl1] | rw [hl2])
                  try go_simp
                  refine hK _ _ ?_
                  clear hK K
                  refine wpAny_ready (rs := [9]) (by kernel_rfl) (by simp) ?_
                  refine AllReady.cons rfl (fun K hK => ?_) ?_
                  · refine append_int_wp _ _ rfl (wC.heap.size + 1) vq _ rfl Hown.out (v:Int) _ rfl rfl Hlo.out HsD.out ?_
                    intro v' w1 ho' hgr hfr hbb
                    obtain ⟨a', l', c', rfl⟩ := ints_any ho'
                    obtain ⟨cA, w2, hmu, hFin⟩ := HF.out _ w1 ho' hgr hfr hbb
                    have HFin := Lib.hid hFin
                    clear ho' hgr hfr hbb hFin
                    refine hK _ _ ?_
                    clear hK K
                    refine wpAny_ready (rs := [10]) (by kernel_rfl) (by simp) ?_
                    refine AllReady.cons rfl (fun K hK => ?_) ?_
                    · go_simp
                      try rw [hmu]
                      try go_simp
                      refine hK _ _ ?_
                      clear hK K
                      refine wpAny_done (by kernel_rfl) ?_ _
                      (gi_wp2; exact Hend.out _ HFin.out)
                    exact AllReady.nil
                  exact AllReady.nil
                exact AllReady.nil
              refine AllReady.cons rfl (fun K hK => ?_) ?_
              · go_simp
                try (first | rw [hl1] | rw [hl2])
                try go_simp
                refine hK _ _ ?_
                clear hK K
                refine wpAny_ready (rs := [1, 9]) (by kernel_rfl) (by simp) ?_
                refine AllReady.cons rfl (fun K hK => ?_) ?_
                · go_simp
                  refine hK _ _ ?_
                  clear hK K
                  refine wpAny_ready (rs := [9]) (by kernel_rfl) (by simp) ?_
                  refine AllReady.cons rfl (fun K hK => ?_) ?_
                  · refine append_int_wp _ _ rfl (wC.heap.size + 1) vq _ rfl Hown.out (v:Int) _ rfl rfl Hlo.out HsD.out ?_
                    intro v' w1 ho' hgr hfr hbb
                    obtain ⟨a', l', c', rfl⟩ := ints_any ho'
                    obtain ⟨cA, w2, hmu, hFin⟩ := HF.out _ w1 ho' hgr hfr hbb
                    have HFin := Lib.hid hFin
                    clear ho' hgr hfr hbb hFin
                    refine hK _ _ ?_
                    clear hK K
                    refine wpAny_ready (rs := [10]) (by kernel_rfl) (by simp) ?_
                    refine AllReady.cons rfl (fun K hK => ?_) ?_
                    · go_simp
                      try rw [hmu]
                      try go_simp
                      refine hK _ _ ?_
                      clear hK K
                      refine wpAny_done (by kernel_rfl) ?_ _
                      (gi_wp2; exact Hend.out _ HFin.out)
                    exact AllReady.nil
                  exact AllReady.nil
                refine AllReady.cons rfl (fun K hK => ?_) ?_
                · refine append_int_wp _ _ rfl (wC.heap.size + 1) vq _ rfl Hown.out (v:Int) _ rfl rfl Hlo.out HsD.out ?_
                  intro v' w1 ho' hgr hfr hbb
                  obtain ⟨a', l', c', rfl⟩ := ints_any ho'
                  obtain ⟨cA, w2, hmu, hFin⟩ := HF.out _ w1 ho' hgr hfr hbb
                  have HFin := Lib.hid hFin
                  clear ho' hgr hfr hbb hFin
                  refine hK _ _ ?_
                  clear hK K
                  refine wpAny_ready (rs := [1]) (by kernel_rfl) (by simp) ?_
                  refine AllReady.cons rfl (fun K hK => ?_) ?_
                  · go_simp
                    refine hK _ _ ?_
                    clear hK K
                    refine wpAny_ready (rs := [10]) (by kernel_rfl) (by simp) ?_
                    refine AllReady.cons rfl (fun K hK => ?_) ?_
                    · go_simp
                      try rw [hmu]
                      try go_simp
                      refine hK _ _ ?_
                      clear hK K
                      refine wpAny_done (by kernel_rfl) ?_ _
                      (gi_wp2; exact Hend.out _ HFin.out)
                    exact AllReady.nil
                  exact AllReady.nil
                exact AllReady.nil
              exact AllReady.nil
            exact AllReady.nil
          refine AllReady.cons rfl (fun K hK => ?_) ?_
          · go_simp
            refine hK _ _ ?_
            clear hK K
            refine wpAny_ready (rs := [1, 4]) (by kernel_rfl) (by simp) ?_
            refine AllReady.cons rfl (fun K hK => ?_) ?_
            · go_simp
              refine hK _ _ ?_
              clear hK K
              refine wpAny_ready (rs := [4]) (by kernel_rfl) (by simp) ?_
              refine AllReady.cons rfl (fun K hK => ?_) ?_
              · go_simp
                refine hK _ _ ?_
                clear hK K
                refine wpAny_ready (rs := [6]) (by kernel_rfl) (by simp) ?_
                refine AllReady.cons rfl (fun K hK => ?_) ?_
                · go_simp
                  try (first | rw [hl1] | rw [hl2])
                  try go_simp
                  refine hK _ _ ?_
                  clear hK K
                  refine wpAny_ready (rs := [9]) (by kernel_rfl) (by simp) ?_
                  refine AllReady.cons rfl (fun K hK => ?_) ?_
                  · refine append_int_wp _ _ rfl (wC.heap.size + 1) vq _ rfl Hown.out (v:Int) _ rfl rfl Hlo.out HsD.out ?_
                    intro v' w1 ho' hgr hfr hbb
                    obtain ⟨a', l', c', rfl⟩ := ints_any ho'
                    obtain ⟨cA, w2, hmu, hFin⟩ := HF.out _ w1 ho' hgr hfr hbb
                    have HFin := Lib.hid hFin
                    clear ho' hgr hfr hbb hFin
                    refine hK _ _ ?_
                    clear hK K
                    refine wpAny_ready (rs := [10]) (by kernel_rfl) (by simp) ?_
                    refine AllReady.cons rfl (fun K hK => ?_) ?_
                    · go_simp
                      try rw [hmu]
                      try go_simp
                      refine hK _ _ ?_
                      clear hK K
                      refine wpAny_done (by kernel_rfl) ?_ _
                      (gi_wp2; exact Hend.out _ HFin.out)
                    exact AllReady.nil
                  exact AllReady.nil
                exact AllReady.nil
              exact AllReady.nil
            refine AllReady.cons rfl (fun K hK => ?_) ?_
            · go_simp
              refine hK _ _ ?_
              clear hK K
              refine wpAny_ready (rs := [1, 6]) (by kernel_rfl) (by simp) ?_
              refine AllReady.cons rfl (fun K hK => ?_) ?_
              · go_simp
                refine hK _ _ ?_
                clear hK K
                refine wpAny_ready (rs := [6]) (by kernel_rfl) (by simp) ?_
                refine AllReady.cons rfl (fun K hK => ?_) ?_
                · go_simp
                  try (first | rw [hl1] | rw [hl2])
                  try go_simp
                  refine hK _ _ ?_
                  clear hK K
                  refine wpAny_ready (rs := [9]) (by kernel_rfl) (by simp) ?_
                  refine AllReady.cons rfl (fun K hK => ?_) ?_
                  · refine append_int_wp _ _ rfl (wC.heap.size + 1) vq _ rfl Hown.out (v:Int) _ rfl rfl Hlo.out HsD.out ?_
                    intro v' w1 ho' hgr hfr hbb
                    obtain ⟨a', l', c', rfl⟩ := ints_any ho'
                    obtain ⟨cA, w2, hmu, hFin⟩ := HF.out _ w1 ho' hgr hfr hbb
                    have HFin := Lib.hid hFin
                    clear ho' hgr hfr hbb hFin
                    refine hK _ _ ?_
                    clear hK K
                    refine wpAny_ready (rs := [10]) (by kernel_rfl) (by simp) ?_
                    refine AllReady.cons rfl (fun K hK => ?_) ?_
                    · go_simp
                      try rw [hmu]
                      try go_simp
                      refine hK _ _ ?_
                      clear hK K
                      refine wpAny_done (by kernel_rfl) ?_ _
                      (gi_wp2; exact Hend.out _ HFin.out)
                    exact AllReady.nil
                  exact AllReady.nil
                exact AllReady.nil
              refine AllReady.cons rfl (fun K hK => ?_) ?_
              · go_simp
                try (first | rw [hl1] | rw [hl2])
                try go_simp
                refine hK _ _ ?_
                clear hK K
                refine wpAny_ready (rs := [1, 9]) (by kernel_rfl) (by simp) ?_
                refine AllReady.cons rfl (fun K hK => ?_) ?_
                · go_simp
                  refine hK _ _ ?_
                  clear hK K
                  refine wpAny_ready (rs := [9]) (by kernel_rfl) (by simp) ?_
                  refine AllReady.cons rfl (fun K hK => ?_) ?_
                  · refine append_int_wp _ _ rfl (wC.heap.size + 1) vq _ rfl Hown.out (v:Int) _ rfl rfl Hlo.out HsD.out ?_
                    intro v' w1 ho' hgr hfr hbb
                    obtain ⟨a', l', c', rfl⟩ := ints_any ho'
                    obtain ⟨cA, w2, hmu, hFin⟩ := HF.out _ w1 ho' hgr hfr hbb
                    have HFin := Lib.hid hFin
                    clear ho' hgr hfr hbb hFin
                    refine hK _ _ ?_
                    clear hK K
                    refine wpAny_ready (rs := [10]) (by kernel_rfl) (by simp) ?_
                    refine AllReady.cons rfl (fun K hK => ?_) ?_
                    · go_simp
                      try rw [hmu]
                      try go_simp
                      refine hK _ _ ?_
                      clear hK K
                      refine wpAny_done (by kernel_rfl) ?_ _
                      (gi_wp2; exact Hend.out _ HFin.out)
                    exact AllReady.nil
                  exact AllReady.nil
                refine AllReady.cons rfl (fun K hK => ?_) ?_
                · refine append_int_wp _ _ rfl (wC.heap.size + 1) vq _ rfl Hown.out (v:Int) _ rfl rfl Hlo.out HsD.out ?_
                  intro v' w1 ho' hgr hfr hbb
                  obtain ⟨a', l', c', rfl⟩ := ints_any ho'
                  obtain ⟨cA, w2, hmu, hFin⟩ := HF.out _ w1 ho' hgr hfr hbb
                  have HFin := Lib.hid hFin
                  clear ho' hgr hfr hbb hFin
                  refine hK _ _ ?_
                  clear hK K
                  refine wpAny_ready (rs := [1]) (by kernel_rfl) (by simp) ?_
                  refine AllReady.cons rfl (fun K hK => ?_) ?_
                  · go_simp
                    refine hK _ _ ?_
                    clear hK K
                    refine wpAny_ready (rs := [10]) (by kernel_rfl) (by simp) ?_
                    refine AllReady.cons rfl (fun K hK => ?_) ?_
                    · go_simp
                      try rw [hmu]
                      try go_simp
                      refine hK _ _ ?_
                      clear hK K
                      refine wpAny_done (by kernel_rfl) ?_ _
                      (gi_wp2; exact Hend.out _ HFin.out)
                    exact AllReady.nil
                  exact AllReady.nil
                exact AllReady.nil
              exact AllReady.nil
            exact AllReady.nil
          exact AllReady.nil
  case hdone =>
    clear hstops hE0 hI0
    rintro D xs W hD hxs ⟨N, V, hN, hG⟩ hd
    have hlow' : g0 + 3 ≤ wC.heap.size := Hlow.out
    obtain ⟨hb3lt, hb3no⟩ : b3 < wC.heap.size ∧ ¬ (g0 ≤ b3 ∧ b3 < g0 + 3) := by
      have := HBC.out.size; obtain ⟨h1, h2, h3, h4, h5⟩ := HG.out; omega
    obtain ⟨hb1lt, hb1no⟩ : b1 < wC.heap.size ∧ ¬ (g0 ≤ b1 ∧ b1 < g0 + 3) := by
      have := HBC.out.size; obtain ⟨h1, h2, h3, h4, h5⟩ := HG.out; omega
    have ht0 : wC.cell? ⟨b3, 0, none⟩ = some (.map (some g0)) ∧ wC.cell? ⟨b3, 1, none⟩ = some (.map (some g1)) ∧ wC.cell? ⟨b3, 2, none⟩ = some (.map (some g2)) := by
      have h0 := HBC.out.t0; have h1 := HBC.out.t1; have h2 := HBC.out.t2
      obtain ⟨e1, e2, e3, e4, e5⟩ := HG.out
      rw [show w.heap.size + 5 = b3 from by omega] at h0 h1 h2
      rw [show w.heap.size + 2 = g0 from by omega] at h0
      rw [show w.heap.size + 3 = g1 from by omega] at h1
      rw [show w.heap.size + 4 = g2 from by omega] at h2
      exact ⟨h0, h1, h2⟩
    have hr0 : wC.cell? ⟨b1, 0, none⟩ = some (.map none) ∧ wC.cell? ⟨b1, 1, none⟩ = some (.map none) ∧ wC.cell? ⟨b1, 2, none⟩ = some (.map none) := by
      rw [HG.out.2.2.2.2]; exact ⟨HBC.out.r0, HBC.out.r1, HBC.out.r2⟩
    have hf0 : wC.frozen? ⟨b1, 0, none⟩ = false ∧ wC.frozen? ⟨b1, 1, none⟩ = false ∧ wC.frozen? ⟨b1, 2, none⟩ = false := by
      rw [HG.out.2.2.2.2]; exact ⟨HBC.out.z0, HBC.out.z1, HBC.out.z2⟩
    have ct0 := (hG.cell (p := ⟨b3, 0, none⟩) hb3lt hb3no).trans ht0.1
    have ct1 := (hG.cell (p := ⟨b3, 1, none⟩) hb3lt hb3no).trans ht0.2.1
    have ct2 := (hG.cell (p := ⟨b3, 2, none⟩) hb3lt hb3no).trans ht0.2.2
    have cr0 := (hG.cell (p := ⟨b1, 0, none⟩) hb1lt hb1no).trans hr0.1
    have cr1 := (hG.cell (p := ⟨b1, 1, none⟩) hb1lt hb1no).trans hr0.2.1
    have cr2 := (hG.cell (p := ⟨b1, 2, none⟩) hb1lt hb1no).trans hr0.2.2
    have zr0 := (hG.frozen (p := ⟨b1, 0, none⟩) hb1lt hb1no).trans hf0.1
    have zr1 := (hG.frozen (p := ⟨b1, 1, none⟩) hb1lt hb1no).trans hf0.2.1
    have zr2 := (hG.frozen (p := ⟨b1, 2, none⟩) hb1lt hb1no).trans hf0.2.2
    have hGG := hG.gg
    have hBl : Below w.heap.size w W := by
      have hb := HBC.out.below
      have hs := HBC.out.size
      have hw2 : w.heap.size < g0 := by obtain ⟨h1, h2, h3, h4, h5⟩ := HG.out; omega
      exact hb.trans ⟨hG.os, hG.tape, hG.output, by have := hG.size; omega, fun k hk => hG.same k (by omega) (by omega)⟩
    have HGG := Lib.hid hGG
    have HBl := Lib.hid hBl
    have Hxs := Lib.hid hxs
    have Hb1 := Lib.hid (And.intro hb1lt hb1no)
    have Hd := Lib.hid hd
    have HsW := Lib.hid hG.size
    have HN2 := Lib.hid hN
    clear hbel hfit hxs hG ht0 hr0 hf0 hGG hBl hb3lt hb3no hb1no hN hd
    go_wp2_with fail
    have hD3 : (((W.setCell ⟨b1, 0, none⟩ (.map (some g0))).setCell ⟨b1, 1, none⟩ (.map (some g1))).setCell ⟨b1, 2, none⟩ (.map (some g2))).heap[D]? = some (.deferred (some [])) := by
      have hne : D ≠ b1 := by have := Hb1.out.1; have := Hs0.out; omega
      rw [Below.heap_setCell _ _ _ _ hne, Below.heap_setCell _ _ _ _ hne, Below.heap_setCell _ _ _ _ hne]; exact Hd.out
    refine ⟨by simp, .inl ⟨_, _, rfl, run_takeDeferred hD3, ?_⟩⟩
    have hbw : w.heap.size < b1 := by obtain ⟨h1, h2, h3, h4, h5⟩ := HG.out; omega
    obtain ⟨W3, hW3⟩ : ∃ W3, W3 = ((W.setCell ⟨b1, 0, none⟩ (.map (some g0))).setCell ⟨b1, 1, none⟩ (.map (some g1))).setCell ⟨b1, 2, none⟩ (.map (some g2)) := ⟨_, rfl⟩
    have hB1 : b1 < wC.heap.size + 1 := by have := Hb1.out.1; omega
    have hGG3 : GG W3 g0 (wC.heap.size + 1) N V (gf code (List.map (·.1) xs)) := by
      rw [hW3]; exact ((HGG.out.set (p := ⟨b1, 0, none⟩) hB1 Hb1.out.2 _).set (p := ⟨b1, 1, none⟩) hB1 Hb1.out.2 _).set (p := ⟨b1, 2, none⟩) hB1 Hb1.out.2 _
    have hBl3 : Below w.heap.size w W3 := by
      rw [hW3]; exact ((HBl.out.setCell (p := ⟨b1, 0, none⟩) (Nat.le_of_lt hbw) _).setCell (p := ⟨b1, 1, none⟩) (Nat.le_of_lt hbw) _).setCell (p := ⟨b1, 2, none⟩) (Nat.le_of_lt hbw) _
    have hc0 : W3.cell? ⟨b1, 0, none⟩ = some (.map (some g0)) ∧ W3.cell? ⟨b1, 1, none⟩ = some (.map (some g1)) ∧ W3.cell? ⟨b1, 2, none⟩ = some (.map (some g2)) := by
      rw [hW3]; refine ⟨?_, ?_, ?_⟩ <;> go_simp
    rw [← hW3] at hD3 ⊢
    clear hW3
    have hbD : Below (wC.heap.size + 1) W3 (W3.putObj D (.deferred none)) := belowK_b (w := W0) (by rw [Hs0.out]; exact Nat.le_refl _) W3 D _ _ hD hD3 rfl rfl
    have k0 := (hbD.cell (p := ⟨b1, 0, none⟩) hB1).trans hc0.1
    have k1 := (hbD.cell (p := ⟨b1, 1, none⟩) hB1).trans hc0.2.1
    have k2 := (hbD.cell (p := ⟨b1, 2, none⟩) hB1).trans hc0.2.2
    refine ⟨graphV g0, by (rw [results_cell1 rfl]; go_simp; rw [graphV, HG.out.2.2.1, HG.out.2.1]), g0, rfl, ⟨wC.heap.size + 1, N, V, ?_, ?_⟩, ?_, ?_⟩
    · rw [Hxs.out] at hGG3
      exact hGG3.put _ hD3 rfl (by have := Hlow.out; have := Hs0.out; omega)
    · have h1 := HN2.out
      have h2 : xs.length = (edgesL code).length := by rw [← Hxs.out, List.length_map]
      have h3 := edgesL_le code
      omega
    · obtain ⟨h1, h2, h3, h4, h5⟩ := HG.out; omega
    · exact hBl3.trans (hbD.mono (by have := hbw; have := Hb1.out.1; omega))
end Go.Proofs.YtapjdndcnenadaaDoor
