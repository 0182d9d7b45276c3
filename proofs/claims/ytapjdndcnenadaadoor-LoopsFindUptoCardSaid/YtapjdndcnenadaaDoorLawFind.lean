/- The statement LoopsFind's walk: of every function it answers true and leaves what was there. -/
import Derived.Test.YtapjdndcnenadaaDoorRFind
import Derived.Test.YtapjdndcnenadaaDoorOver
import Derived.Test.YtapjdndcnenadaaDoorFindSame
import Derived.Test.YtapjdndcnenadaaDoorFixed14
import Derived.Test.YtapjdndcnenadaaDoorSameFn
import Derived.Test.YtapjdndcnenadaaDoorCopy
namespace Go.Proofs.YtapjdndcnenadaaDoor
open Go.RowKit

def cs (s : Bool) (j : Nat) : Int := if s then 1000 + (j : Int) else 2000 + (j : Int)
/-- The two answers in memory, the first one's rows written over. -/
structure LF (wX w4 W : World) (v4 v5 : Value) (l1 l' l2 : List LP) : Prop where
  own : OwnLoops W wX.heap.size wX.heap.size v4 l'
  want : OwnLoops W w4.heap.size w4.heap.size v5 l2
  len : l'.length = l1.length
  rows : ∀ (i : Nat) x, l'[i]? = some x → ∃ y, l1[i]? = some y ∧ ∀ s, x.row s = y.row s ∧ (x.cont s).length = (y.cont s).length
  low : ∀ y ∈ l1, ∀ s k, (y.row s).ownBlock = some k → k < w4.heap.size
  below : Below wX.heap.size wX W
theorem LF.later {wX w4 W W' : World} {v4 v5 : Value} {l1 l' l2 : List LP} (h : LF wX w4 W v4 v5 l1 l' l2) (hb : Below W.heap.size W W') : LF wX w4 W' v4 v5 l1 l' l2 :=
  ⟨h.own.later hb, h.want.later hb, h.len, h.rows, h.low, h.below.trans (hb.mono h.below.size)⟩
theorem LF.put {wX w4 W : World} {v4 v5 : Value} {l1 l' l2 : List LP} (h : LF wX w4 W v4 v5 l1 l' l2) {i : Nat} {x : LP} (hx : l'[i]? = some x) (s : Bool) {g n c : Nat} (hv : x.row s = .slice (some ⟨g, 0, none⟩) n c) (k : Nat) (z : Int) :
    LF wX w4 (W.setCell ⟨g, k, none⟩ (.int .i64 z)) v4 v5 l1 (l'.set i (x.put s ((x.cont s).set k z))) l2 := by
  have hgl : g < w4.heap.size := by
    obtain ⟨y, hy, hr⟩ := h.rows i x hx
    exact h.low y (List.mem_of_getElem? hy) s g (by rw [← (hr s).1, hv]; rfl)
  have hgX : wX.heap.size ≤ g := (World.ownsRow.lt (h.own.side (List.mem_of_getElem? hx) s) g (by rw [hv]; rfl)).1
  refine ⟨h.own.put hx s hv k z, ⟨ownsRow_setCell_below (a := ⟨g, k, none⟩) h.want.row hgl _, fun y hy => ⟨ownsRow_setCell_below (a := ⟨g, k, none⟩) (h.want.each y hy).1 hgl _, ownsRow_setCell_below (a := ⟨g, k, none⟩) (h.want.each y hy).2 hgl _⟩, h.want.apart⟩, by rw [List.length_set]; exact h.len, fun j y hy => ?_, h.low, h.below.setCell hgX _⟩
  rw [List.getElem?_set] at hy
  by_cases e : i = j
  · subst e
    rw [if_pos rfl] at hy
    split at hy
    · obtain rfl := Option.some.inj hy
      obtain ⟨y, hy, hr⟩ := h.rows i x hx
      refine ⟨y, hy, fun t => ⟨by rw [LP.put_row]; exact (hr t).1, ?_⟩⟩
      by_cases e2 : t = s
      · subst e2; rw [LP.put_cont, List.length_set]; exact (hr t).2
      · have e3 : t = !s := by cases t <;> cases s <;> simp_all
        subst e3; rw [LP.put_other]; exact (hr _).2
    · cases hy
  · rw [if_neg e] at hy
    exact h.rows j y hy
theorem LF.app {wX w4 W w' : World} {v4 v5 : Value} {l1 l' l2 : List LP} (h : LF wX w4 W v4 v5 l1 l' l2) {i : Nat} {x : LP} (hx : l'[i]? = some x) (s : Bool) {o : Obj} (hg : (W.alloc o).grownBy w' (x.row s).ownBlock) (ho : OwnInts w' wX.heap.size (x.row s) (x.cont s)) (hb : Below wX.heap.size wX w') :
    LF wX w4 w' v4 v5 l1 l' l2 := by
  have hgl : ∀ g, (x.row s).ownBlock = some g → g < w4.heap.size := fun g hg => by
    obtain ⟨y, hy, hr⟩ := h.rows i x hx
    exact h.low y (List.mem_of_getElem? hy) s g (by rw [← (hr s).1]; exact hg)
  have hk : ∀ (u : Value) {e : TypeId} {size n : Nat} {xs : List Value}, W.ownsRow w4.heap.size e size u n xs → w'.ownsRow w4.heap.size e size u n xs := fun u _ _ _ _ hu => by
    refine World.ownsRow.kept (World.ownsRow.alloc hu _) hg ?_
    cases hub : u.ownBlock with
    | none => exact .inl rfl
    | some k => exact .inr (fun e => by have h1 := hgl k e.symm; have h2 := (World.ownsRow.lt hu k hub).1; omega)
  exact ⟨h.own.app hx s hg ho, ⟨hk _ h.want.row, fun y hy => ⟨hk _ (h.want.each y hy).1, hk _ (h.want.each y hy).2⟩, h.want.apart⟩, h.len, h.rows, h.low, hb⟩
/-- All is written over ahead of i, and so much of i's rows. -/
structure AL (l' : List LP) (i pt pf : Nat) : Prop where
  done : ∀ (j : Nat) x, j < i → l'[j]? = some x → ∀ s t, t < (x.cont s).length → (x.cont s).getD t 0 = cs s j
  part : ∀ x, l'[i]? = some x → ∀ (s : Bool) t, t < (if s then pt else pf) → t < (x.cont s).length → (x.cont s).getD t 0 = cs s i
theorem AL.next {l' : List LP} {i pt pf : Nat} (h : AL l' i pt pf) {x : LP} (hx : l'[i]? = some x) (ht : (x.cont true).length ≤ pt) (hf : (x.cont false).length ≤ pf) : AL l' (i + 1) 0 0 := by
  refine ⟨fun j y hj hy s t hl => ?_, fun y _ s t hp _ => by cases s <;> simp at hp⟩
  by_cases e : j = i
  · subst e
    rw [hx] at hy
    obtain rfl := Option.some.inj hy
    refine h.part _ hx s t ?_ hl
    cases s
    · simp; omega
    · simp; omega
  · exact h.done j y (by omega) hy s t hl
theorem AL.put {l' : List LP} {i pt pf : Nat} (h : AL l' i pt pf) {x : LP} (hx : l'[i]? = some x) (s : Bool) (hk : (if s then pt else pf) < (x.cont s).length) :
    AL (l'.set i (x.put s ((x.cont s).set (if s then pt else pf) (cs s i)))) i (if s then pt + 1 else pt) (if s then pf else pf + 1) := by
  have hi := (List.getElem?_eq_some_iff.1 hx).1
  refine ⟨fun j y hj hy => ?_, fun y hy => ?_⟩
  · rw [List.getElem?_set, if_neg (by omega)] at hy
    exact h.done j y hj hy
  · rw [List.getElem?_set, if_pos rfl, if_pos hi] at hy
    obtain rfl := Option.some.inj hy
    intro t u hu hl
    by_cases e : t = s
    · subst e
      rw [LP.put_cont] at hl ⊢
      rw [List.length_set] at hl
      rw [List.getD_eq_getElem?_getD, List.getElem?_set]
      by_cases e2 : (if t = true then pt else pf) = u
      · rw [if_pos e2, if_pos (by rw [e2]; exact hl)]; rfl
      · rw [if_neg e2, ← List.getD_eq_getElem?_getD]
        refine h.part x hx t u ?_ hl
        cases t
        · simp at hu e2 ⊢; omega
        · simp at hu e2 ⊢; omega
    · have e3 : t = !s := by cases t <;> cases s <;> simp_all
      subst e3
      rw [LP.put_other] at hl ⊢
      refine h.part x hx (!s) u ?_ hl
      cases s
      · simpa using hu
      · simpa using hu

theorem LF.row_at {wX w4 W : World} {gv m cv : Nat} {v5 : Value} {l1 l' l2 : List LP} (h : LF wX w4 W (.slice (some ⟨gv, 0, none⟩) m cv) v5 l1 l' l2) (hb : ∀ y ∈ l1, ∀ s, 1 ≤ (y.cont s).length ∧ (y.cont s).length ≤ 2048) {i : Nat} {x : LP} (hx : l'[i]? = some x) :
    W.cell? ⟨gv, i * 4 + 2, none⟩ = some (x.row true) ∧ W.cell? ⟨gv, i * 4 + 3, none⟩ = some (x.row false) ∧ ∀ s, ∃ g c, x.row s = .slice (some ⟨g, 0, none⟩) (x.cont s).length c ∧ 1 ≤ (x.cont s).length ∧ (x.cont s).length ≤ 2048 := by
  obtain ⟨-, -, c2, c3⟩ := h.own.toIn.at' hx
  rw [Nat.zero_add] at c2 c3
  refine ⟨c2, c3, fun s => ?_⟩
  obtain ⟨y, hy, hr⟩ := h.rows i x hx
  have h1 := hb y (List.mem_of_getElem? hy) s
  rw [← (hr s).2] at h1
  rcases (h.own.side (List.mem_of_getElem? hx) s).form with ⟨_, e⟩ | ⟨g, c, e, _⟩
  · rw [e] at h1; simp at h1
  · exact ⟨g, c, e, h1⟩
/-- The rows of one loop, as they lie. -/
def RX (l' : List LP) (i : Nat) (vT vF : Value) (La Lb : Nat) : Prop := ∃ x, l'[i]? = some x ∧ x.row true = vT ∧ x.row false = vF ∧ (x.cont true).length = La ∧ (x.cont false).length = Lb
theorem RX.put {l' : List LP} {i : Nat} {vT vF : Value} {La Lb : Nat} {x : LP} (hx : l'[i]? = some x) (h : x.row true = vT ∧ x.row false = vF ∧ (x.cont true).length = La ∧ (x.cont false).length = Lb) (s : Bool) (k : Nat) (z : Int) : RX (l'.set i (x.put s ((x.cont s).set k z))) i vT vF La Lb := by
  have hi := (List.getElem?_eq_some_iff.1 hx).1
  refine ⟨_, by rw [List.getElem?_set, if_pos rfl, if_pos hi], by rw [LP.put_row]; exact h.1, by rw [LP.put_row]; exact h.2.1, ?_, ?_⟩
  · cases s
    · show (x.cont true).length = La; exact h.2.2.1
    · show ((x.cont true).set k z).length = La; rw [List.length_set]; exact h.2.2.1
  · cases s
    · show ((x.cont false).set k z).length = Lb; rw [List.length_set]; exact h.2.2.2
    · show (x.cont false).length = Lb; exact h.2.2.2

set_option maxRecDepth 100000 in
set_option maxHeartbeats 8000000 in
theorem lawFind_any (s : ByteArray) (vp : Value) (regs words : Int) (vc : Value) (params : List Span) (code : List Ins) (w : World) (hlen : code.length * 40 ≤ 140737488351232) (hplen : params.length * 16 ≤ 140737488351232) (hc : CodeIn w vc code) (hp : SpansIn w vp params) (hw : WritesIn w) :
    Calls Tryd.prog 3 #[fnV s vp regs words vc] w (Gives (.bool true) w) := by
  have Hlen := Lib.hid hlen
  have Hplen := Lib.hid hplen
  have Hc := Lib.hid hc
  have Hp := Lib.hid hp
  have Hw := Lib.hid hw
  clear hlen hplen hc hp hw
  go_enter Tryd.func3, Tryd.ntmps3
  go_wp2_with fail
  have hb0 : Below w.heap.size w (w.alloc (.cells #[.string s, vp, .int .i64 regs, .int .i64 words, vc] 25)) := (Below.refl _ _).alloc (Nat.le_refl _) _
  refine (copyFunc_any s vp regs words vc params code _ Hlen.out Hplen.out (SliceIn.later Hc.out hb0) (SliceIn.later Hp.out hb0)).mono ?_
  rintro e wA ⟨vp', vc', rfl, hpA, hcA, -, hbA⟩
  obtain ⟨a1, n1, c1, rfl⟩ := row_form hpA
  obtain ⟨a2, n2, c2, rfl⟩ := row_form hcA
  obtain ⟨wX, hwX⟩ : ∃ wX : World, wX = wA.alloc (.cells #[.string s, .slice a1 n1 c1, .int .i64 regs, .int .i64 words, .slice a2 n2 c2] 25) := ⟨_, rfl⟩
  have hbX : Below wA.heap.size wA wX := by rw [hwX]; exact (Below.refl _ _).alloc (Nat.le_refl _) _
  have hsA : w.heap.size < wA.heap.size := by have := hbA.size; simp at this; omega
  have hfS : FnAt wX w.heap.size s vp regs words vc := ((FnAt.box w s vp regs words vc _).later hbA (by simp)).later hbX hsA
  have hfO : FnAt wX wA.heap.size s (.slice a1 n1 c1) regs words (.slice a2 n2 c2) := by rw [hwX]; exact FnAt.box _ _ _ _ _ _ _
  have hbw : Below w.heap.size w wX := hb0.trans ((hbA.mono (by simp)).trans (hbX.mono (by omega)))
  have hsX : wA.heap.size + 1 ≤ wX.heap.size := by rw [hwX]; simp
  have hcO : CodeIn wX (.slice a2 n2 c2) code := SliceIn.later (SliceIn.of_owns hcA) hbX
  have hpO : SpansIn wX (.slice a1 n1 c1) params := SliceIn.later (SliceIn.of_owns hpA) hbX
  obtain ⟨f0, f1, f2, f3, f4⟩ := hfO
  have HX : Hid (FnAt wX w.heap.size s vp regs words vc ∧ FnAt wX wA.heap.size s (.slice a1 n1 c1) regs words (.slice a2 n2 c2) ∧ Below w.heap.size w wX ∧ CodeIn wX (.slice a2 n2 c2) code ∧ SpansIn wX (.slice a1 n1 c1) params) := ⟨hfS, ⟨f0, f1, f2, f3, f4⟩, hbw, hcO, hpO⟩
  have HwX := Lib.hid hwX
  have HsX : Hid (w.heap.size < wA.heap.size ∧ wA.heap.size < wX.heap.size) := ⟨hsA, hsX⟩
  clear hb0 hpA hcA hbA hbX hfS hbw hcO hpO hwX
  go_wp2_with fail
  rw [← HwX.out]
  refine (find_any s (.slice a1 n1 c1) regs words (.slice a2 n2 c2) code _ Hlen.out HX.out.2.2.2.1 (Hw.out.next HX.out.2.2.1)).mono ?_
  rintro e w4 ⟨v4, l1, E1, A1, rfl, hl1, hF1, hb4⟩
  obtain ⟨g0, g1, g2, g3, g4⟩ := HX.out.1.later hb4 (by omega)
  have H4 := Lib.hid (And.intro hl1 (And.intro hF1 hb4))
  clear hl1 hF1 hb4 f0 f1 f2 f3 f4
  go_wp2_with fail
  refine (rfind_any s vp regs words vc code _ Hlen.out (SliceIn.later Hc.out (HX.out.2.2.1.trans (H4.out.2.2.mono (by omega))))).mono ?_
  rintro e w5 ⟨v5, l2, E2, A2, rfl, hl2, hF2, hb5⟩
  obtain ⟨hE, hA, hkey⟩ := findIs_same H4.out.2.1 hF2
  have hlow : ∀ y ∈ l1, ∀ s k, (y.row s).ownBlock = some k → k < w4.heap.size := fun y hy s k hk => (World.ownsRow.lt (H4.out.1.side hy s) k hk).2
  have hLF : LF wX w4 w5 v4 v5 l1 l1 l2 := ⟨H4.out.1.later hb5, hl2, rfl, fun i x hx => ⟨x, hx, fun s => ⟨rfl, rfl⟩⟩, hlow, H4.out.2.2.trans (hb5.mono H4.out.2.2.size)⟩
  have HLF := Lib.hid hLF
  have H5 := Lib.hid (And.intro hF2 hkey)
  have hfl := findIs_len H4.out.2.1
  have hfl2 := findIs_len hF2
  have Hfl := Lib.hid (And.intro hfl hfl2)
  subst hE
  subst hA
  clear hlow hLF hl2 hF2 hb5 hkey hfl hfl2 g0 g1 g2 g3 g4
  go_wp2_with fail
  refine (rsame_any v4 v5 l1 l2 _ HLF.out.own.toIn HLF.out.want.toIn (by have := Hfl.out.1.1; omega) (by have := Hfl.out.2.1; omega) (fun x hx => by have := Hfl.out.1.2 x hx; omega) (fun x hx => by have := Hfl.out.2.2 x hx; omega)).mono ?_
  rintro e w6 ⟨rfl, q6, rfl⟩
  rw [decide_eq_true H5.out.2]
  obtain ⟨wH, hwH⟩ : ∃ wH : World, wH = w5.drewN q6 := ⟨_, rfl⟩
  have hLH : LF wX w4 wH v4 v5 l1 l1 l2 := by rw [hwH]; exact HLF.out.later (below_draws _ _)
  rw [← hwH]
  have hO := HX.out.2.1.later hLH.below (by have := HsX.out; omega)
  have hS := HX.out.1.later hLH.below (by have := HsX.out; omega)
  obtain ⟨f0, f1, f2, f3, f4⟩ := hO
  obtain ⟨g0, g1, g2, g3, g4⟩ := hS
  have HH := Lib.hid hLH
  have hz2 : wA.heap.size < wH.heap.size := by have := hLH.below.size; have := HsX.out; omega
  have hz1 : w.heap.size < wH.heap.size := by omega
  clear hwH hLH
  go_wp2_with fail
  obtain ⟨WZ, hWZ⟩ : ∃ WZ : World, WZ = (wH.alloc (.cells #[.string s, .slice a1 n1 c1, .int .i64 regs, .int .i64 words, .slice a2 n2 c2] 25)).alloc (.cells #[.string s, vp, .int .i64 regs, .int .i64 words, vc] 25) := ⟨_, rfl⟩
  rw [← hWZ]
  have hbZ : Below wH.heap.size wH WZ := by rw [hWZ]; exact ((Below.refl _ _).alloc (Nat.le_refl _) _).alloc (by (try simp only [World.size_alloc]); (try simp only [size_set]); omega) _
  have hXZ : Below wX.heap.size wX WZ := HH.out.below.trans (hbZ.mono HH.out.below.size)
  have hwZ : Below w.heap.size w WZ := HX.out.2.2.1.trans (hXZ.mono (by omega))
  have hfa : FnAt WZ wH.heap.size s (.slice a1 n1 c1) regs words (.slice a2 n2 c2) := by
    rw [hWZ]; exact (FnAt.box wH s _ regs words _ _).later ((Below.refl (wH.heap.size + 1) _).alloc (by (try simp only [World.size_alloc]); (try simp only [size_set]); omega) _) (Nat.lt_succ_self _)
  have hfb : FnAt WZ (wH.heap.size + 1) s vp regs words vc := by
    have := FnAt.box (wH.alloc (.cells #[.string s, .slice a1 n1 c1, .int .i64 regs, .int .i64 words, .slice a2 n2 c2] 25)) s vp regs words vc 25
    rw [hWZ]; simpa using this
  have hzz : wH.heap.size + 2 ≤ WZ.heap.size := by rw [hWZ]; simp
  have hcz : CodeIn WZ (.slice a2 n2 c2) code := SliceIn.later HX.out.2.2.2.1 hXZ
  have hpz : SpansIn WZ (.slice a1 n1 c1) params := SliceIn.later HX.out.2.2.2.2 hXZ
  have HZ := Lib.hid (HH.out.later hbZ)
  clear hWZ f0 f1 f2 f3 f4 g0 g1 g2 g3 g4
  refine (same_true s (.slice a1 n1 c1) vp regs words (.slice a2 n2 c2) vc params code WZ Hlen.out Hplen.out hcz hpz (SliceIn.later Hc.out hwZ) (SliceIn.later Hp.out hwZ) _ _ hfa hfb (by omega) (by omega)).mono ?_
  rintro e wK ⟨rfl, hbK⟩
  have HK := Lib.hid (HZ.out.later hbK)
  clear hbZ hXZ hwZ hfa hfb hcz hpz hbK
  go_wp2_with fail
  refine (fixed14_any _ (Hw.out.next (HX.out.2.2.1.trans (HK.out.below.mono (by omega))))).mono ?_
  rintro e wL ⟨rfl, hbL⟩
  have HL := Lib.hid (HK.out.later hbL)
  clear hbL
  obtain ⟨m, hm⟩ : ∃ m, m = l1.length := ⟨_, rfl⟩
  have hm9 : m ≤ 1024 := by rw [hm]; exact Hfl.out.1.1
  obtain ⟨av, cv, rfl, hav⟩ : ∃ a c, v4 = .slice a m c ∧ (0 < m → ∃ g, a = some ⟨g, 0, none⟩) := by
    rcases HL.out.own.row.2 with ⟨h, h2⟩ | ⟨g, cap, cur, h, h3, _⟩
    · exact ⟨none, 0, by rw [h, hm, h2], fun h0 => by omega⟩
    · exact ⟨_, cap, by rw [h, hm], fun _ => ⟨g, rfl⟩⟩
  have Hm := Lib.hid hm
  clear hm
  have Hbnd : Hid (∀ y ∈ l1, ∀ s, 1 ≤ (y.cont s).length ∧ (y.cont s).length ≤ 2048) := fun y hy s => by
    obtain ⟨h1, h2, h3, h4⟩ := Hfl.out.1.2 y hy
    cases s
    · exact ⟨List.length_pos_iff.2 h4, h2⟩
    · exact ⟨List.length_pos_iff.2 h3, by show y.mem.length ≤ 2048; omega⟩
  have q1 : (E1 != E1) = false := by simp
  have q2 : (A1 != A1) = false := by simp
  go_wp2_with fail
  clear q1 q2
  go_loopg [12, 13, 14] m (fun g iv _ _ wx => ∃ (i : Nat) (l' : List LP), g = m - i ∧ iv = .int .i64 (i : Int) ∧ i ≤ m ∧ LF wX w4 wx (.slice av m cv) v5 l1 l' l2 ∧ AL l' i 0 0)
  case atStart => exact ⟨0, l1, rfl, rfl, Nat.zero_le _, HL.out, ⟨fun j x hj => by omega, fun x _ s t hp => by cases s <;> simp at hp⟩⟩
  case round =>
    obtain ⟨i, l', hg, rfl, hi, hF, hA⟩ := hrel
    have Hg := Lib.hid hg
    have HF := Lib.hid hF
    have HA := Lib.hid hA
    clear hg hF hA HLF HH HZ HK HL
    by_cases him : i < m
    · as_aux_lemma =>
        obtain ⟨gv, rfl⟩ := hav (by omega)
        obtain ⟨x0, hx0⟩ : ∃ x, l'[i]? = some x := ⟨_, List.getElem?_eq_getElem (by rw [HF.out.len, ← Hm.out]; exact him)⟩
        obtain ⟨yy2, yy3, hrow⟩ := HF.out.row_at Hbnd.out hx0
        obtain ⟨ga, ca, hra, ha1, ha2⟩ := hrow true
        obtain ⟨gb, cb, hrb, hb1, hb2⟩ := hrow false
        obtain ⟨La, hLa⟩ : ∃ La, La = (x0.cont true).length := ⟨_, rfl⟩
        obtain ⟨Lb, hLb⟩ : ∃ Lb, Lb = (x0.cont false).length := ⟨_, rfl⟩
        rw [← hLa] at hra ha1 ha2
        rw [← hLb] at hrb hb1 hb2
        rw [hra] at yy2
        rw [hrb] at yy3
        have HS : Hid (LF wX w4 wr (.slice (some ⟨gv, 0, none⟩) m cv) v5 l1 l' l2 ∧ AL l' i 0 0 ∧ RX l' i (.slice (some ⟨ga, 0, none⟩) La ca) (.slice (some ⟨gb, 0, none⟩) Lb cb) La Lb) := ⟨HF.out, HA.out, x0, hx0, hra, hrb, hLa.symm, hLb.symm⟩
        clear hrow hra hrb hLa hLb hx0 HF HA
        go_wp2_with fail
        clear yy2 yy3
        go_loopg [13] La (fun gh kv wx => ∃ (k : Nat) (l' : List LP), gh = La - k ∧ kv = .int .i64 (k : Int) ∧ k ≤ La ∧ LF wX w4 wx (.slice (some ⟨gv, 0, none⟩) m cv) v5 l1 l' l2 ∧ AL l' i k 0 ∧ RX l' i (.slice (some ⟨ga, 0, none⟩) La ca) (.slice (some ⟨gb, 0, none⟩) Lb cb) La Lb)
        case atStart => exact ⟨0, _, rfl, rfl, Nat.zero_le _, HS.out.1, HS.out.2.1, HS.out.2.2⟩
        case round =>
          obtain ⟨k, l', hg, rfl, hk, hF, hA, hR⟩ := hrel
          obtain ⟨x, hx, hR1, hR2, hR3, hR4⟩ := hR
          have Hg2 := Lib.hid hg
          obtain ⟨yy2, yy3, -⟩ := hF.row_at Hbnd.out hx
          rw [hR1] at yy2
          rw [hR2] at yy3
          have hFA := And.intro hF hA
          have HFA := Lib.hid hFA
          have HR := Lib.hid (And.intro hR1 (And.intro hR2 (And.intro hR3 hR4)))
          have hs := hF.own.side (List.mem_of_getElem? hx) true
          have Hx := Lib.hid hx
          clear hg hF hA hFA hR1 hR2 hR3 hR4 hx HS
          by_cases hkn : k < La
          · as_aux_lemma =>
            have e0 : x.row true = .slice (some ⟨ga, 0, none⟩) La ca := HR.out.1
            have eL : (x.cont true).length = La := HR.out.2.2.1
            rw [e0] at hs
            have hck := OwnInts.cell hs (k := k) (by rw [eL]; exact hkn)
            have hfk := OwnInts.free hs k
            generalize (x.cont true).getD k 0 = y0 at hck
            have HN := Lib.hid (And.intro (HFA.out.1.put Hx.out true e0 k (cs true i)) (And.intro (HFA.out.2.put Hx.out true (by show k < _; rw [eL]; exact hkn)) (RX.put Hx.out HR.out true k (cs true i))))
            have hcs : cs true i = 1000 + (i : Int) := rfl
            rw [hcs] at HN
            clear hs e0 eL hcs
            go_wp2_with fail
            go_roundg (La - (k + 1))
            case measure => have := Hg2.out; omega
            case rel => exact ⟨k + 1, _, rfl, by go_num, hkn, HN.out.1, HN.out.2.1, HN.out.2.2⟩
          · obtain rfl : La = k := by omega
            have HS : Hid (LF wX w4 wr (.slice (some ⟨gv, 0, none⟩) m cv) v5 l1 l' l2 ∧ AL l' i La 0 ∧ RX l' i (.slice (some ⟨ga, 0, none⟩) La ca) (.slice (some ⟨gb, 0, none⟩) Lb cb) La Lb) := ⟨HFA.out.1, HFA.out.2, x, Hx.out, HR.out⟩
            clear hs hkn HFA
            go_wp2_with fail
            clear yy2 yy3
            go_loopg [14] Lb (fun gh kv wx => ∃ (k : Nat) (l' : List LP), gh = Lb - k ∧ kv = .int .i64 (k : Int) ∧ k ≤ Lb ∧ LF wX w4 wx (.slice (some ⟨gv, 0, none⟩) m cv) v5 l1 l' l2 ∧ AL l' i La k ∧ RX l' i (.slice (some ⟨ga, 0, none⟩) La ca) (.slice (some ⟨gb, 0, none⟩) Lb cb) La Lb)
            case atStart => exact ⟨0, _, rfl, rfl, Nat.zero_le _, HS.out.1, HS.out.2.1, HS.out.2.2⟩
            case round =>
              obtain ⟨k, l', hg, rfl, hk, hF, hA, hR⟩ := hrel
              obtain ⟨x, hx, hR1, hR2, hR3, hR4⟩ := hR
              have Hg2 := Lib.hid hg
              obtain ⟨yy2, yy3, -⟩ := hF.row_at Hbnd.out hx
              rw [hR1] at yy2
              rw [hR2] at yy3
              have hFA := And.intro hF hA
              have HFA := Lib.hid hFA
              have HR := Lib.hid (And.intro hR1 (And.intro hR2 (And.intro hR3 hR4)))
              have hs := hF.own.side (List.mem_of_getElem? hx) false
              have Hx := Lib.hid hx
              clear hg hF hA hFA hR1 hR2 hR3 hR4 hx HS
              by_cases hkn : k < Lb
              · as_aux_lemma =>
                have e0 : x.row false = .slice (some ⟨gb, 0, none⟩) Lb cb := HR.out.2.1
                have eL : (x.cont false).length = Lb := HR.out.2.2.2
                rw [e0] at hs
                have hck := OwnInts.cell hs (k := k) (by rw [eL]; exact hkn)
                have hfk := OwnInts.free hs k
                generalize (x.cont false).getD k 0 = y0 at hck
                have HN := Lib.hid (And.intro (HFA.out.1.put Hx.out false e0 k (cs false i)) (And.intro (HFA.out.2.put Hx.out false (by show k < _; rw [eL]; exact hkn)) (RX.put Hx.out HR.out false k (cs false i))))
                have hcs : cs false i = 2000 + (i : Int) := rfl
                rw [hcs] at HN
                clear hs e0 eL hcs
                go_wp2_with fail
                go_roundg (Lb - (k + 1))
                case measure => have := Hg2.out; omega
                case rel => exact ⟨k + 1, _, rfl, by go_num, hkn, HN.out.1, HN.out.2.1, HN.out.2.2⟩
              · obtain rfl : Lb = k := by omega
                have HS : Hid (LF wX w4 wr (.slice (some ⟨gv, 0, none⟩) m cv) v5 l1 l' l2 ∧ AL l' i La Lb ∧ RX l' i (.slice (some ⟨ga, 0, none⟩) La ca) (.slice (some ⟨gb, 0, none⟩) Lb cb) La Lb) := ⟨HFA.out.1, HFA.out.2, x, Hx.out, HR.out⟩
                clear hs hkn HFA
                obtain ⟨x2, hx2, hR1, hR2, hR3, hR4⟩ := HS.out.2.2
                have HN := Lib.hid (And.intro HS.out.1 (HS.out.2.1.next hx2 (by rw [hR3]; exact Nat.le_refl _) (by rw [hR4]; exact Nat.le_refl _)))
                clear hx2 hR1 hR2 hR3 hR4 HS
                go_wp2_with fail
                go_roundg (m - (i + 1))
                case measure => have := Hg.out; omega
                case rel => exact ⟨i + 1, l', rfl, by go_num, him, HN.out.1, HN.out.2⟩
    · as_aux_lemma =>
      obtain rfl : m = i := by omega
      clear him hi Hg
      go_wp2_with fail
      go_loopg [15, 16] m (fun g rv iv wx => ∃ i r : Nat, g = m - i ∧ iv = .int .i64 (i : Int) ∧ rv = .int .i64 (r : Int) ∧ i ≤ m ∧ i ≤ r ∧ r ≤ 5000 * i ∧ LF wX w4 wx (.slice av m cv) v5 l1 l' l2)
      case atStart => exact ⟨0, 0, rfl, rfl, rfl, Nat.zero_le _, Nat.le_refl _, Nat.le_refl _, HF.out⟩
      case round =>
        obtain ⟨i, r, hg, rfl, rfl, hi, hr1, hr2, hF⟩ := hrel
        have Hg := Lib.hid hg
        have HF := Lib.hid hF
        clear hg hF
        by_cases him : i < m
        · as_aux_lemma =>
          obtain ⟨gv, rfl⟩ := hav (by omega)
          obtain ⟨x, hx⟩ : ∃ x, l'[i]? = some x := ⟨_, List.getElem?_eq_getElem (by rw [HF.out.len, ← Hm.out]; exact him)⟩
          obtain ⟨yy2, yy3, hrow⟩ := HF.out.row_at Hbnd.out hx
          obtain ⟨ga, ca, hra, ha1, ha2⟩ := hrow true
          obtain ⟨gb, cb, hrb, hb1, hb2⟩ := hrow false
          have hsa := HF.out.own.side (List.mem_of_getElem? hx) true
          have hsb := HF.out.own.side (List.mem_of_getElem? hx) false
          obtain ⟨La, hLa⟩ : ∃ La, La = (x.cont true).length := ⟨_, rfl⟩
          obtain ⟨Lb, hLb⟩ : ∃ Lb, Lb = (x.cont false).length := ⟨_, rfl⟩
          have Hx := Lib.hid hx
          have Hra := Lib.hid hra
          have Hrb := Lib.hid hrb
          rw [hra] at yy2 hsa
          have Hsa := Lib.hid hsa
          have hlm : Hid ((x.cont true).length ≤ 1000000000000 ∧ wX.heap.size ≤ wr.heap.size) := ⟨by omega, HF.out.below.size⟩
          rw [← hLa] at yy2
          rw [← hLa] at ha1 ha2
          rw [← hLb] at hb1 hb2
          have HLa := Lib.hid hLa
          have HLb := Lib.hid hLb
          have Hsa2 : Hid (OwnInts wr wX.heap.size (.slice (some ⟨ga, 0, none⟩) La ca) (x.cont true)) := by have h := Hsa.out; rw [← HLa.out] at h; exact h
          have hcs2 := block_lt_of_cell yy2
          clear hrow hra hrb hsa hsb hx hLa hLb yy3
          go_wp2_with (at_builtin; refine append_int_keep rfl _ _ rfl wX.heap.size _ (x.cont true) rfl Hsa2.out _ rfl hlm.out.1 hlm.out.2 ?_)
          intro a7 c7 w7 ho7 hg7 hb7
          have hF7 : LF wX w4 w7 (.slice (some ⟨gv, 0, none⟩) m cv) v5 l1 l' l2 := HF.out.app Hx.out true (by rw [Hra.out, ← HLa.out]; exact hg7) (by rw [Hra.out, ← HLa.out]; exact ho7) (hb7 _ _ HF.out.below (Nat.le_refl _))
          have HF7 := Lib.hid hF7
          rw [← HLa.out]
          clear ho7 hg7 hb7 hF7 yy2 hcs2
          obtain ⟨-, yy3, -⟩ := HF7.out.row_at Hbnd.out Hx.out
          have hsb := HF7.out.own.side (List.mem_of_getElem? Hx.out) false
          rw [Hrb.out, ← HLb.out] at yy3 hsb
          have Hsb := Lib.hid hsb
          have hlm2 : Hid ((x.cont false).length ≤ 1000000000000 ∧ wX.heap.size ≤ w7.heap.size) := ⟨by rw [← HLb.out]; omega, HF7.out.below.size⟩
          have hcs3 := block_lt_of_cell yy3
          clear hsb
          go_wp2_with (at_builtin; refine append_int_keep rfl _ _ rfl wX.heap.size _ (x.cont false) rfl Hsb.out _ rfl hlm2.out.1 hlm2.out.2 ?_)
          intro a8 c8 w8 ho8 hg8 hb8
          have hF8 : LF wX w4 w8 (.slice (some ⟨gv, 0, none⟩) m cv) v5 l1 l' l2 := HF7.out.app Hx.out false (by rw [Hrb.out, ← HLb.out]; exact hg8) (by rw [Hrb.out, ← HLb.out]; exact ho8) (hb8 _ _ HF7.out.below (Nat.le_refl _))
          have HF8 := Lib.hid hF8
          rw [← HLb.out]
          clear ho8 hg8 hb8 hF8 yy3 hcs3
          go_wp2_with fail
          go_roundg (m - (i + 1))
          case measure => have := Hg.out; omega
          case rel => exact ⟨i + 1, r + (La + 1) + (Lb + 1), rfl, by go_num, by go_num, him, by omega, by omega, HF8.out⟩
        · as_aux_lemma =>
          obtain rfl : m = i := by omega
          have q1 : decide ((r : Int) < (m : Int)) = false := by simp; omega
          have q2 : decide (r < m) = false := by simp; omega
          clear him hi Hg hr1 hr2
          go_wp2_with fail
          clear q1 q2
          go_loopg [17, 18, 19] m (fun g iv _ _ wx => ∃ i : Nat, g = m - i ∧ iv = .int .i64 (i : Int) ∧ i ≤ m ∧ LF wX w4 wx (.slice av m cv) v5 l1 l' l2)
          case atStart => exact ⟨0, rfl, rfl, Nat.zero_le _, HF.out⟩
          case round =>
            obtain ⟨i, hg, rfl, hi, hF⟩ := hrel
            have Hg3 := Lib.hid hg
            have HF := Lib.hid hF
            clear hg hF
            by_cases him : i < m
            · as_aux_lemma =>
                obtain ⟨gv, rfl⟩ := hav (by omega)
                obtain ⟨x, hx⟩ : ∃ x, l'[i]? = some x := ⟨_, List.getElem?_eq_getElem (by rw [HF.out.len, ← Hm.out]; exact him)⟩
                obtain ⟨yy2, yy3, hrow⟩ := HF.out.row_at Hbnd.out hx
                obtain ⟨ga, ca, hra, ha1, ha2⟩ := hrow true
                obtain ⟨gb, cb, hrb, hb1, hb2⟩ := hrow false
                obtain ⟨La, hLa⟩ : ∃ La, La = (x.cont true).length := ⟨_, rfl⟩
                obtain ⟨Lb, hLb⟩ : ∃ Lb, Lb = (x.cont false).length := ⟨_, rfl⟩
                rw [← hLa] at hra ha1 ha2
                rw [← hLb] at hrb hb1 hb2
                rw [hra] at yy2
                rw [hrb] at yy3
                have Hx := Lib.hid hx
                have HRW := Lib.hid (And.intro hra (And.intro hrb (And.intro hLa hLb)))
                clear hrow hra hrb hLa hLb hx
                go_wp2_with fail
                clear yy2 yy3
                go_loopg [18] La (fun gh kv wx => ∃ k : Nat, gh = La - k ∧ kv = .int .i64 (k : Int) ∧ k ≤ La ∧ LF wX w4 wx (.slice (some ⟨gv, 0, none⟩) m cv) v5 l1 l' l2)
                case atStart => exact ⟨0, rfl, rfl, Nat.zero_le _, HF.out⟩
                case round =>
                  obtain ⟨k, hg, rfl, hk, hF⟩ := hrel
                  have Hg2 := Lib.hid hg
                  obtain ⟨yy2, yy3, -⟩ := hF.row_at Hbnd.out Hx.out
                  rw [HRW.out.1] at yy2
                  rw [HRW.out.2.1] at yy3
                  have hs := hF.own.side (List.mem_of_getElem? Hx.out) true
                  have HF := Lib.hid hF
                  clear hg hF
                  by_cases hkn : k < La
                  · as_aux_lemma =>
                    have e0 : x.row true = .slice (some ⟨ga, 0, none⟩) La ca := HRW.out.1
                    have eL : (x.cont true).length = La := HRW.out.2.2.1.symm
                    rw [e0] at hs
                    have hck := OwnInts.cell hs (k := k) (by rw [eL]; exact hkn)
                    rw [HA.out.done i x him Hx.out true k (by rw [eL]; exact hkn)] at hck
                    have hcs : cs true i = 1000 + (i : Int) := rfl
                    rw [hcs] at hck
                    clear hs e0 eL hcs
                    go_wp2_with fail
                    go_roundg (La - (k + 1))
                    case measure => have := Hg2.out; omega
                    case rel => exact ⟨k + 1, rfl, by go_num, hkn, HF.out⟩
                  · obtain rfl : La = k := by omega
                    clear hs hkn
                    go_wp2_with fail
                    clear yy2 yy3
                    go_loopg [19] Lb (fun gh kv wx => ∃ k : Nat, gh = Lb - k ∧ kv = .int .i64 (k : Int) ∧ k ≤ Lb ∧ LF wX w4 wx (.slice (some ⟨gv, 0, none⟩) m cv) v5 l1 l' l2)
                    case atStart => exact ⟨0, rfl, rfl, Nat.zero_le _, HF.out⟩
                    case round =>
                      obtain ⟨k, hg, rfl, hk, hF⟩ := hrel
                      have Hg2 := Lib.hid hg
                      obtain ⟨yy2, yy3, -⟩ := hF.row_at Hbnd.out Hx.out
                      rw [HRW.out.1] at yy2
                      rw [HRW.out.2.1] at yy3
                      have hs := hF.own.side (List.mem_of_getElem? Hx.out) false
                      have HF := Lib.hid hF
                      clear hg hF
                      by_cases hkn : k < Lb
                      · as_aux_lemma =>
                        have e0 : x.row false = .slice (some ⟨gb, 0, none⟩) Lb cb := HRW.out.2.1
                        have eL : (x.cont false).length = Lb := HRW.out.2.2.2.symm
                        rw [e0] at hs
                        have hck := OwnInts.cell hs (k := k) (by rw [eL]; exact hkn)
                        rw [HA.out.done i x him Hx.out false k (by rw [eL]; exact hkn)] at hck
                        have hcs : cs false i = 2000 + (i : Int) := rfl
                        rw [hcs] at hck
                        clear hs e0 eL hcs
                        go_wp2_with fail
                        go_roundg (Lb - (k + 1))
                        case measure => have := Hg2.out; omega
                        case rel => exact ⟨k + 1, rfl, by go_num, hkn, HF.out⟩
                      · obtain rfl : Lb = k := by omega
                        clear hs hkn
                        go_wp2_with fail
                        go_roundg (m - (i + 1))
                        case measure => have := Hg3.out; omega
                        case rel => exact ⟨i + 1, rfl, by go_num, him, HF.out⟩
            · as_aux_lemma =>
              obtain rfl : m = i := by omega
              obtain ⟨f0, f1, f2, f3, f4⟩ := HX.out.2.1.later HF.out.below (by have := HsX.out; omega)
              clear him hi Hg3
              go_wp2_with fail
              refine (find_any s (.slice a1 n1 c1) regs words (.slice a2 n2 c2) code _ Hlen.out (SliceIn.later HX.out.2.2.2.1 HF.out.below) (Hw.out.next (HX.out.2.2.1.trans (HF.out.below.mono (by omega))))).mono ?_
              rintro e w9 ⟨v9, l3, E3, A3, rfl, hl3, hF3, hb9⟩
              obtain ⟨-, -, hkey⟩ := findIs_same hF3 H5.out.1
              have hfl3 := findIs_len hF3
              have H9 := Lib.hid (And.intro hl3 (And.intro hkey (And.intro (HF.out.later hb9) hfl3)))
              clear hl3 hF3 hb9 hkey hfl3 f0 f1 f2 f3 f4
              go_wp2_with fail
              refine (rsame_any v9 v5 l3 l2 _ H9.out.1.toIn H9.out.2.2.1.want.toIn (by have := H9.out.2.2.2.1; omega) (by have := Hfl.out.2.1; omega) (fun x hx => by have := H9.out.2.2.2.2 x hx; omega) (fun x hx => by have := Hfl.out.2.2 x hx; omega)).mono ?_
              rintro e w10 ⟨rfl, q10, rfl⟩
              rw [decide_eq_true H9.out.2.1]
              have HB : Hid (Below w.heap.size w (w9.drewN q10)) := below_drewN (HX.out.2.2.1.trans (H9.out.2.2.1.below.mono (by omega))) _
              go_wp2_with fail
              go_ret
              exact ⟨rfl, HB.out⟩
end Go.Proofs.YtapjdndcnenadaaDoor
