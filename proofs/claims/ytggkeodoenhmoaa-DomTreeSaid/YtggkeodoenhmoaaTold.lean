/- Edges are told as they are to be, as far as somebody asks: told answers true. -/
import Derived.Test.YtggkeodoenhmoaaFixed
import Derived.Test.YtggkeodoenhmoaaREdges
namespace Go.Proofs.Ytggkeodoenhmoaa
open Go.RowKit Go.Shelf
attribute [local go_sem] Oper.semAt_some wide_fn

/-- The cells that told writes: its answer and its count. -/
def toldM (S : Nat) (W : World) (k : Nat) : Prop := k < W.heap.size ∧ (k = S + 3 ∨ k = S + 4)
theorem toldM_fit (S Bf B : Nat) (h1 : Bf = S + 5) (h2 : S + 6 ≤ B) : MFit (toldM S) S Bf B := by
  refine ⟨fun W k h => ⟨by rcases h with ⟨_, h⟩; omega, by rcases h with ⟨_, h⟩; omega⟩, fun W W' hB _ k h => ⟨by rcases h with ⟨_, h⟩; omega, h.2⟩, fun W l o o' _ h ho k hk => ⟨by have := hk.1; simpa [World.putObj] using this, hk.2⟩⟩

structure TI (w W : World) (vw : Value) (k : Int) (code : List Ins) (l : List Edge) : Prop where
  pre : l <+: edgesL code
  want : W.cell? ⟨w.heap.size + 1, 0, none⟩ = some vw
  stop : W.cell? ⟨w.heap.size + 2, 0, none⟩ = some (.int .i64 k)
  res : W.cell? ⟨w.heap.size + 3, 0, none⟩ = some (.bool false)
  fres : W.frozen? ⟨w.heap.size + 3, 0, none⟩ = false
  at' : W.cell? ⟨w.heap.size + 4, 0, none⟩ = some (.int .i64 (l.length : Int))
  fat : W.frozen? ⟨w.heap.size + 4, 0, none⟩ = false
  below : Below w.heap.size w W
  size : w.heap.size + 6 ≤ W.heap.size

theorem TI.turn {w W W' : World} {row : Option Nat} {vw : Value} {k : Int} {code : List Ins} {l : List Edge} (h : TI w W vw k code l) (hg : W.grownBy W' row) (hr : ∀ r, row = some r → w.heap.size + 6 ≤ r ∧ ∃ o : Obj, W.heap[r]? = some o ∧ o.isCells = false) : TI w W' vw k code l :=
  have hr' : ∀ r, row = some r → ∃ o : Obj, W.heap[r]? = some o ∧ o.isCells = false := fun r e => (hr r e).2
  ⟨h.pre, cell_kept h.want hg hr', cell_kept h.stop hg hr', cell_kept h.res hg hr', (frozen_kept h.res hg hr').trans h.fres, cell_kept h.at' hg hr', (frozen_kept h.at' hg hr').trans h.fat, h.below.grown hg (by have := h.size; omega) (fun k e => by have := (hr k e).1; omega), Nat.le_trans h.size hg.size⟩

/-- Behind an answer within the loop. -/
structure TX (w W : World) (code : List Ins) (l : List Edge) : Prop where
  good : l <+: edgesL code → W.cell? ⟨w.heap.size + 3, 0, none⟩ = some (.bool true)
  res : ∃ b, W.cell? ⟨w.heap.size + 3, 0, none⟩ = some (.bool b)
  below : Below w.heap.size w W
  size : w.heap.size + 6 ≤ W.heap.size
theorem TX.turn {w W W' : World} {row : Option Nat} {code : List Ins} {l : List Edge} (h : TX w W code l) (hg : W.grownBy W' row) (hr : ∀ r, row = some r → w.heap.size + 6 ≤ r ∧ ∃ o : Obj, W.heap[r]? = some o ∧ o.isCells = false) : TX w W' code l :=
  have hr' : ∀ r, row = some r → ∃ o : Obj, W.heap[r]? = some o ∧ o.isCells = false := fun r e => (hr r e).2
  ⟨fun hp => cell_kept (h.good hp) hg hr', by obtain ⟨b, hb⟩ := h.res; exact ⟨b, cell_kept hb hg hr'⟩, h.below.grown hg (by have := h.size; omega) (fun k e => by have := (hr k e).1; omega), Nat.le_trans h.size hg.size⟩

theorem results_cell1 {fn : Func} {p : Tmp} {ty : TypeId} (h : fn.results = #[.cell p ty]) (tmps : Array Value) (P : Program) (w : World) :
    (results fn tmps).run P w = ((asAddr (tmps.getD p undef)).run P w).andThen fun a w1 => (loadVar ty a).run P w1 := by
  simp only [results, h]
  simp [Sem.run_bind, Result.andThen]

theorem pre_next {l L : List Edge} {d : Edge} (h : l <+: L) (hl : l.length < L.length) (x : Edge) : l ++ [x] <+: L ↔ x = L.getD l.length d := by
  obtain ⟨t, rfl⟩ := h
  cases t with
  | nil => simp at hl
  | cons y t =>
    rw [List.prefix_append_right_inj, List.getD_eq_getElem?_getD, List.getElem?_append_right (Nat.le_refl _)]
    constructor
    · rintro ⟨t', h⟩
      simp at h
      simp [h.1]
    · intro h
      simp at h
      subst h
      exact ⟨t, rfl⟩

theorem edgesL_le (code : List Ins) : (edgesL code).length ≤ 2048 := by
  have h1 := edgesTo_len code (reachL code (-1)) (reachL code (-1)).length
  have h2 : (reachL code (-1)).length ≤ 1024 := by
    rw [reachL_length]; split
    · rename_i h; simp [hasB] at h; exact h.2
    · omega
  unfold edgesL
  omega

set_option maxRecDepth 100000 in
set_option maxHeartbeats 2000000 in
theorem told_any (s : ByteArray) (vp : Value) (regs words : Int) (vc : Value) (code : List Ins) (vw : Value) (k : Int) (w : World) (hlen : code.length * 40 ≤ 140737488351232) (hc : CodeIn w vc code) (hw : EdgesIn w vw (edgesL code)) :
    Calls Try.prog 22 #[fnV s vp regs words vc, vw, .int .i64 k] w (Gives (.bool true) w) := by
  have Hc := Lib.hid hc
  have Hw := Lib.hid hw
  have Hlen := Lib.hid hlen
  have hwv := hw
  obtain ⟨-, aw, cw, rfl, hcw1, hcw2, -⟩ := hwv
  have Hcw := Lib.hid (And.intro hcw1 hcw2)
  clear hc hw hlen hcw1 hcw2
  refine (callsIn_wide (n := 20)).1 ?_
  refine callsIn_of_wp_marks Try.func22 rfl trivial ?_ rfl
  simp only [Try.ntmps22, List.size_toArray, List.length_cons, List.length_nil, Nat.reduceAdd, Nat.reduceSub, Array.replicate_succ, Array.replicate_zero, List.push_toArray, List.append_toArray, List.nil_append, List.cons_append]
  gi_wp2_with fail
  refine (callsIn_wide.2 (edges_any _ _ _ _ _ _)).mono ?_
  rintro e w2 ⟨rfl, rfl⟩
  obtain ⟨nE, hnE⟩ : ∃ nE, nE = (edgesL code).length := ⟨_, rfl⟩
  have hnE2 : nE ≤ 2048 := by rw [hnE]; exact edgesL_le code
  have HnE := Lib.hid hnE
  rw [← hnE] at Hw ⊢
  clear hnE
  gi_wp2_with fail
  obtain ⟨W0, hW0⟩ : ∃ W0 : World, W0 = (((((w.alloc (.cells #[.string s, vp, .int .i64 regs, .int .i64 words, vc] 25)).alloc (.cells #[.slice aw nE cw] 41)).alloc (.cells #[.int .i64 k] 3)).alloc (.cells #[.bool false] 4)).alloc (.cells #[.int .i64 0] 3)).alloc (.cells #[.string s, vp, .int .i64 regs, .int .i64 words, vc] 25) := ⟨_, rfl⟩
  rw [← hW0]
  have hs0 : W0.heap.size = w.heap.size + 6 := by rw [hW0]; simp
  have hbel : Below w.heap.size w W0 := by
    rw [hW0]
    exact ((Below.refl _ _).alloc (Nat.le_refl _) _).alloc (by (try simp only [World.size_alloc]); (try simp only [size_set]); omega) _ |>.alloc (by (try simp only [World.size_alloc]); (try simp only [size_set]); omega) _ |>.alloc (by (try simp only [World.size_alloc]); (try simp only [size_set]); omega) _ |>.alloc (by (try simp only [World.size_alloc]); (try simp only [size_set]); omega) _ |>.alloc (by (try simp only [World.size_alloc]); (try simp only [size_set]); omega) _
  have hI0 : TI w W0 (.slice aw nE cw) k code [] := by
    refine ⟨List.nil_prefix, ?_, ?_, ?_, ?_, ?_, ?_, hbel, by omega⟩
    all_goals rw [hW0]
    · rw [World.cell?_alloc_past _ _ _ (by (try simp only [World.size_alloc]); (try simp only [size_set]); omega), World.cell?_alloc_past _ _ _ (by (try simp only [World.size_alloc]); (try simp only [size_set]); omega), World.cell?_alloc_past _ _ _ (by (try simp only [World.size_alloc]); (try simp only [size_set]); omega), World.cell?_alloc_past _ _ _ (by (try simp only [World.size_alloc]); (try simp only [size_set]); omega), World.cell?_alloc_at _ _ _ _ (by simp)]; rfl
    · rw [World.cell?_alloc_past _ _ _ (by (try simp only [World.size_alloc]); (try simp only [size_set]); omega), World.cell?_alloc_past _ _ _ (by (try simp only [World.size_alloc]); (try simp only [size_set]); omega), World.cell?_alloc_past _ _ _ (by (try simp only [World.size_alloc]); (try simp only [size_set]); omega), World.cell?_alloc_at _ _ _ _ (by simp)]; rfl
    · rw [World.cell?_alloc_past _ _ _ (by (try simp only [World.size_alloc]); (try simp only [size_set]); omega), World.cell?_alloc_past _ _ _ (by (try simp only [World.size_alloc]); (try simp only [size_set]); omega), World.cell?_alloc_at _ _ _ _ (by simp)]; rfl
    · rw [World.frozen?_alloc_past _ _ _ (by (try simp only [World.size_alloc]); (try simp only [size_set]); omega), World.frozen?_alloc_past _ _ _ (by (try simp only [World.size_alloc]); (try simp only [size_set]); omega), World.frozen?_alloc_at _ _ _ _ (by simp)]
    · rw [World.cell?_alloc_past _ _ _ (by (try simp only [World.size_alloc]); (try simp only [size_set]); omega), World.cell?_alloc_at _ _ _ _ (by simp)]; rfl
    · rw [World.frozen?_alloc_past _ _ _ (by (try simp only [World.size_alloc]); (try simp only [size_set]); omega), World.frozen?_alloc_at _ _ _ _ (by simp)]
  have hE0 : EAt w W0 (w.heap.size + 1 + 1 + 1 + 1 + 1) s vp regs words vc := by
    refine ⟨?_, hbel.size, fun p u hp hc => (hbel.cell hp).trans hc, by omega⟩
    have := FnAt.box (((((w.alloc (.cells #[.string s, vp, .int .i64 regs, .int .i64 words, vc] 25)).alloc (.cells #[.slice aw nE cw] 41)).alloc (.cells #[.int .i64 k] 3)).alloc (.cells #[.bool false] 4)).alloc (.cells #[.int .i64 0] 3)) s vp regs words vc 25
    rw [hW0]
    simpa using this
  have hfit : MFit (toldM w.heap.size) w.heap.size (w.heap.size + 1 + 1 + 1 + 1 + 1) W0.heap.size := toldM_fit _ _ _ (by omega) (by omega)
  have hstops := edges_stops 19 (w.heap.size + 1 + 1 + 1 + 1 + 1) (by omega) w s vp regs words vc code Hlen.out Hc.out (toldM w.heap.size) W0 hfit hE0 (fun k hk => hk.1)
  clear hW0
  apply wpIn_rangeFunc_ownG (F := Fence.wide) (n := 20) rfl (by omega) (gf := 38) (lb := #[.pointer (some ⟨w.heap.size + 1 + 1 + 1 + 1 + 1, 0, none⟩)]) rfl trivial (enters_of Try.func38 (by kernel_rfl) rfl) hstops
    (fun h k => h.trans k) (fun W l o o' hl h ho _ => KM.put hfit W l o o' hl h ho) (Below.refl _ _) (fun _ => rfl)
    (fun pre W => TI w W (.slice aw nE cw) k code (pre.map (·.1)))
    (fun c pre W => c = .ret ∧ TX w W code (pre.map (·.1)))
  case hI => exact fun q A B row h hg hr => h.turn hg (fun r e => by have := hr r e; exact ⟨by omega, this.2⟩)
  case hIx => exact fun _ q A B row h hg hr => ⟨h.1, h.2.turn hg (fun r e => by have := hr r e; exact ⟨by omega, this.2⟩)⟩
  case h0 => exact hI0
  case hassign =>
    intro l x W K hK
    gi_wp2
    exact hK
  case hstop =>
    rintro D c pre W hD hp ⟨rfl, hx⟩ hdef
    have hres := hx.good hp
    have hbD : Below (w.heap.size + 6) W (W.putObj D (.deferred none)) := belowK_b (w := W0) (by omega) W D _ _ hD hdef rfl rfl
    have hres2 : (W.putObj D (.deferred none)).cell? ⟨w.heap.size + 1 + 1 + 1, 0, none⟩ = some (.bool true) := (hbD.cell (by show w.heap.size + 1 + 1 + 1 < _; omega)).trans hres
    have hbe := hx.below
    clear hstops hE0 hI0
    gi_wp2_with fail
    refine ⟨by simp, .inl ⟨_, _, rfl, run_takeDeferred hdef, ?_⟩⟩
    refine ⟨.bool true, by rw [results_cell1 rfl]; go_simp, rfl, hbe.trans (hbD.mono (by omega))⟩
  case hbody =>
    rintro l pre ⟨⟨u, v⟩, hx⟩ W hB hlt
    clear hstops hE0 hI0
    obtain ⟨L, hL⟩ : ∃ L : List Edge, L = pre.map (·.1) := ⟨_, rfl⟩
    have hLl : L.length = pre.length := by rw [hL, List.length_map]
    rw [← hL] at hB
    obtain ⟨q1, q2, q3, q4, q5, q6, q7, q8, q9⟩ := hB
    rw [← hLl, ← HnE.out] at hlt
    obtain ⟨b, off, hab, hbw, c1, c2⟩ := EdgesIn.cell (SliceIn.later Hw.out q8) (k := L.length) (by rw [← HnE.out]; exact hlt)
    subst hab
    have hnx := pre_next (d := ((0 : Int), (0 : Int))) q1 (by rw [← HnE.out]; exact hlt) (u, v)
    generalize (edgesL code).getD L.length (0, 0) = pq at c1 c2 hnx
    obtain ⟨p, q⟩ := pq
    simp only at c1 c2
    obtain ⟨m, hm⟩ : ∃ m, m = L.length := ⟨_, rfl⟩
    rw [← hm] at c1 c2 q6 hlt
    have hwr : IntKind.i64.wrap ((m : Int) + 1) = (m : Int) + 1 := IntWalk.i64_in _ (by omega)
    have eL : (pre ++ [(⟨(u, v), hx⟩ : EdgeOf code)]).map (·.1) = L ++ [(u, v)] := by rw [List.map_append, ← hL]; rfl
    have hMs : ∀ (W : World) (p : Addr) (u : Value) (k : Nat), toldM w.heap.size (W.setCell p u) k → toldM w.heap.size W k := fun W p u k hk => ⟨by have := hk.1; rw [size_set] at this; exact this, hk.2⟩
    have hbad : ¬ (L ++ [(u, v)] <+: edgesL code) → KeepsFrom W0.heap.size W (W.setCell ⟨w.heap.size + 3, 0, none⟩ (.bool false)) ∧ TX w (W.setCell ⟨w.heap.size + 3, 0, none⟩ (.bool false)) code (L ++ [(u, v)]) := fun hne =>
      ⟨(KeepsOthers.setCell _ _ _).from _, fun h => absurd h hne, ⟨false, World.cell?_setCell_same' _ _ _ (by rw [q4]; rfl)⟩, q8.setCell (by show _ ≤ w.heap.size + 3; omega) _, by rw [size_set]; exact q9⟩
    have hgood : KeepsFrom W0.heap.size W ((W.setCell ⟨w.heap.size + 4, 0, none⟩ (.int .i64 ((m : Int) + 1))).setCell ⟨w.heap.size + 3, 0, none⟩ (.bool true)) ∧ TX w ((W.setCell ⟨w.heap.size + 4, 0, none⟩ (.int .i64 ((m : Int) + 1))).setCell ⟨w.heap.size + 3, 0, none⟩ (.bool true)) code (L ++ [(u, v)]) := by
      have e : ∀ b, ((W.setCell ⟨w.heap.size + 4, 0, none⟩ (.int .i64 ((m : Int) + 1))).setCell ⟨w.heap.size + 3, 0, none⟩ (.bool b)).cell? ⟨w.heap.size + 3, 0, none⟩ = some (.bool b) := fun b =>
        World.cell?_setCell_same' _ _ _ (by rw [World.cell?_setCell_other _ _ _ _ (by simp), q4]; rfl)
      exact ⟨((KeepsOthers.setCell _ _ _).trans (KeepsOthers.setCell _ _ _)).from _, fun _ => e true, ⟨true, e true⟩, (q8.setCell (by show _ ≤ w.heap.size + 4; omega) _).setCell (by show _ ≤ w.heap.size + 3; omega) _, by rw [size_set, size_set]; exact q9⟩
    have hnext : (L ++ [(u, v)] <+: edgesL code) → KeepsFrom W0.heap.size W (W.setCell ⟨w.heap.size + 4, 0, none⟩ (.int .i64 ((m : Int) + 1))) ∧ KM (toldM w.heap.size) W (W.setCell ⟨w.heap.size + 4, 0, none⟩ (.int .i64 ((m : Int) + 1))) ∧ TI w (W.setCell ⟨w.heap.size + 4, 0, none⟩ (.int .i64 ((m : Int) + 1))) (.slice (some ⟨b, off, none⟩) nE cw) k code (L ++ [(u, v)]) := fun hp =>
      ⟨(KeepsOthers.setCell _ _ _).from _, KM.setCell hMs _ ⟨by show w.heap.size + 4 < _; omega, Or.inr rfl⟩,
        hp, (World.cell?_setCell_other _ _ _ _ (by simp)).trans q2, (World.cell?_setCell_other _ _ _ _ (by simp)).trans q3, (World.cell?_setCell_other _ _ _ _ (by simp)).trans q4, (World.frozen?_setCell _ _ _ _).trans q5,
        by rw [World.cell?_setCell_same' _ _ _ (by rw [q6]; rfl), List.length_append, ← hm]; simp, (World.frozen?_setCell _ _ _ _).trans q7, q8.setCell (by show _ ≤ w.heap.size + 4; omega) _, by rw [size_set]; exact q9⟩
    have Hnext := Lib.hid hnext
    clear hnext
    have Hbad := Lib.hid hbad
    have Hgood := Lib.hid hgood
    have Hnx := Lib.hid hnx
    have Hq1 := Lib.hid q1
    have HeL := Lib.hid eL
    have Hm := Lib.hid hm
    clear hbad hgood hnx q1 hL hLl eL hm
    have hlb : ¬ nE ≤ m := by omega
    clear hs0
    by_cases hu : u = p
    · subst hu
      by_cases hv : v = q
      · subst hv
        have Hp : Hid (L ++ [(u, v)] <+: edgesL code) := Hnx.out.2 rfl
        clear Hnx
        by_cases hk : (m : Int) + 1 = k
        · subst hk
          gi_wp2
          exact ⟨Hgood.out.1, rfl, by show TX _ _ _ (List.map _ _); rw [HeL.out]; exact Hgood.out.2⟩
        · have hkb : ((m : Int) + 1 == k) = false := by simpa using hk
          gi_wp2
          have h3 := Hnext.out Hp.out
          exact ⟨h3.1, h3.2.1, by show TI _ _ _ _ _ (List.map _ _); rw [HeL.out]; exact h3.2.2⟩
      · have Hn : Hid (¬ (L ++ [(u, v)] <+: edgesL code)) := fun h => hv (by have := Hnx.out.1 h; simp only [Prod.mk.injEq] at this; exact this.2)
        have hvb : (v != q) = true := by simpa using hv
        clear Hnx
        gi_wp2
        have h3 := Hbad.out Hn.out
        exact ⟨h3.1, rfl, by show TX _ _ _ (List.map _ _); rw [HeL.out]; exact h3.2⟩
    · have Hn : Hid (¬ (L ++ [(u, v)] <+: edgesL code)) := fun h => hu (by have := Hnx.out.1 h; simp only [Prod.mk.injEq] at this; exact this.1)
      have hub : (u != p) = true := by simpa using hu
      clear Hnx
      gi_wp2
      have h3 := Hbad.out Hn.out
      exact ⟨h3.1, rfl, by show TX _ _ _ (List.map _ _); rw [HeL.out]; exact h3.2⟩
  case hdone =>
    rintro D xs W hD hxs hB hK
    rw [hxs] at hB
    clear hstops hE0 hI0
    obtain ⟨q1, q2, q3, q4, q5, q6, q7, q8, q9⟩ := hB
    rw [← HnE.out] at q6
    gi_wp2_with fail
    have hbD : Below (w.heap.size + 6) (W.setCell ⟨w.heap.size + 1 + 1 + 1, 0, none⟩ (.bool true)) ((W.setCell ⟨w.heap.size + 1 + 1 + 1, 0, none⟩ (.bool true)).putObj D (.deferred none)) :=
      belowK_b (w := W0) (by omega) _ D (.deferred (some [])) _ hD (by rw [Below.heap_setCell _ _ _ _ (by show D ≠ w.heap.size + 1 + 1 + 1; omega)]; exact hK) rfl rfl
    have hres2 : ((W.setCell ⟨w.heap.size + 1 + 1 + 1, 0, none⟩ (.bool true)).putObj D (.deferred none)).cell? ⟨w.heap.size + 1 + 1 + 1, 0, none⟩ = some (.bool true) := (hbD.cell (by show w.heap.size + 1 + 1 + 1 < _; omega)).trans (World.cell?_setCell_same' _ _ _ (by rw [q4]; rfl))
    refine ⟨by simp, .inl ⟨_, _, rfl, run_takeDeferred (ds := []) (by rw [Below.heap_setCell _ _ _ _ (by show D ≠ w.heap.size + 1 + 1 + 1; omega)]; exact hK), ?_⟩⟩
    refine ⟨.bool true, by rw [results_cell1 rfl]; go_simp, rfl, (q8.setCell (by show _ ≤ w.heap.size + 1 + 1 + 1; omega) _).trans (hbD.mono (by omega))⟩
end Go.Proofs.Ytggkeodoenhmoaa
