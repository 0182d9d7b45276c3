/- (graph).round: the least instruction from which a way without back edges comes back. -/
import Derived.Test.YtapjdndcnenadaaDoorSorted
namespace Go.Proofs.YtapjdndcnenadaaDoor
open Go.RowKit Go.Maps

/-- What stands first, of all that are on a ring of edges that go ahead. -/
def RoundIs (code : List Ins) (at' : Int) (is : Bool) : Prop :=
  (is = true ∧ 0 ≤ at' ∧ at' < code.length ∧ Way (aheadE code) at' at' ∧ ∀ v, Way (aheadE code) v v → at' ≤ v) ∨ (is = false ∧ at' = 0 ∧ ∀ v, ¬ Way (aheadE code) v v)
def RetRound (code : List Ins) (w : World) (e : Ending) (w' : World) : Prop :=
  ∃ at' is, e = .returned (.tuple #[.int .i64 at', .bool is]) ∧ RoundIs code at' is ∧ Below w.heap.size w w'

/-- How many lead to one, of the edges from ks and of x's first k. -/
def c1F (es : List Edge) (ks : List Int) (x : Int) (k : Nat) (v : Int) : Int := ((cnt1 es ks v + ((outI es x).take k).count v : Nat) : Int)
def c0F (es : List Edge) (ks : List Int) (v : Int) : Int := ((cnt1 es ks v : Nat) : Int)
def ctF (es : List Edge) (P : List Int) (v : Int) : Int := ((cntTo es P v : Nat) : Int)
theorem c0F_nil (es : List Edge) : c0F es [] = fun _ => 0 := by funext v; unfold c0F cnt1; simp
theorem c1F_zero (es : List Edge) (ks : List Int) (x : Int) : c1F es ks x 0 = c0F es ks := by funext v; unfold c1F c0F; simp
theorem c1F_all {es : List Edge} {ks : List Int} {x : Int} (hx : ¬ x ∈ ks) {k : Nat} (hk : (outI es x).length ≤ k) : c1F es ks x k = c0F es (ks ++ [x]) := by
  funext v; unfold c1F c0F; rw [cnt1_snoc hx, List.take_of_length_le hk]
theorem c1F_step {es : List Edge} {ks : List Int} {x : Int} {i : Nat} {y : Int} (h : (outI es x)[i]? = some y) : c1F es ks x (i + 1) = fun v => if v = y then c1F es ks x i y + 1 else c1F es ks x i v := by
  funext v
  unfold c1F
  rw [count_take_succ h]
  by_cases e : v = y
  · subst e; simp; omega
  · simp [e]
theorem c1F_range (code : List Ins) (ks : List Int) (x : Int) (k : Nat) (y : Int) : 0 ≤ c1F (aheadE code) ks x k y ∧ c1F (aheadE code) ks x k y ≤ 9000 := by
  have h1 := cnt1_le (aheadE code) ks y
  have h2 : ((outI (aheadE code) x).take k).count y ≤ (outI (aheadE code) x).length := Nat.le_trans (count_take_le _ _ _) List.count_le_length
  have h3 := outI_len2 code x
  have h4 : (aheadE code).length ≤ 2048 := Nat.le_trans (List.length_filter_le _ _) (edgesL_le code)
  unfold c1F
  omega
/-- The keys that have been gone through. -/
structure Gone (V : Int → Value) (left : Lit → Bool) (ks : List Int) : Prop where
  nodup : ks.Nodup
  sub : ∀ x ∈ ks, left (.int .i64 x) = false
  all : ∀ x, V x ≠ nilV → left (.int .i64 x) = false → x ∈ ks
theorem Gone.start {V : Int → Value} {left : Lit → Bool} (h : ∀ y, V y ≠ nilV → left (.int .i64 y) = true) : Gone V left [] :=
  ⟨List.nodup_nil, fun x hx => absurd hx (by simp), fun x hx hl => by rw [h x hx] at hl; cases hl⟩
theorem Gone.new {V : Int → Value} {left : Lit → Bool} {ks : List Int} {x : Int} (h : Gone V left ks) (hl : left (.int .i64 x) = true) : ¬ x ∈ ks := fun hm => by have := h.sub x hm; rw [hl] at this; cases this
theorem Gone.next {V : Int → Value} {left : Lit → Bool} {ks : List Int} {x : Int} (h : Gone V left ks) (hl : left (.int .i64 x) = true) : Gone V (fun z => left z && !z.sameKey (.int .i64 x)) (ks ++ [x]) := by
  have hn := h.new hl
  refine ⟨List.nodup_append.2 ⟨h.nodup, by simp, fun a ha b hb e => by simp at hb; subst hb; subst e; exact hn ha⟩, fun y hy => ?_, fun y hy hf => ?_⟩
  · rcases List.mem_append.1 hy with hy | hy
    · exact strike_false_iff.2 (.inl (h.sub y hy))
    · rw [List.mem_singleton.1 hy]; exact strike_false_iff.2 (.inr rfl)
  · rcases strike_false_iff.1 hf with hf | hf
    · exact List.mem_append.2 (.inl (h.all y hy hf))
    · exact List.mem_append.2 (.inr (by simp [hf]))
theorem owns_nil {w : World} {B : Nat} {l : List Int} (h : OwnInts w B nilV l) : l = [] := by
  rcases h.form with ⟨_, h⟩ | ⟨g, c, h, _⟩
  · exact h
  · cases h
theorem IMap.kept {w w' : World} {b : Nat} {F : Int → Int} {row : Option Nat} (h : IMap w b F) (hg : w.grownBy w' row) (hne : some b ≠ row) : IMap w' b F := h.at_block (hg.block b h.lt hne)

theorem c0F_all {es : List Edge} {ks : List Int} (h : ∀ e ∈ es, e.1 ∈ ks) : c0F es ks = ctF es [] := by
  funext v; unfold c0F ctF; rw [cnt1_all h]
theorem ctF_range (code : List Ins) (P : List Int) (y : Int) : 0 ≤ ctF (aheadE code) P y ∧ ctF (aheadE code) P y ≤ 9000 := by
  have h1 := cntTo_le (aheadE code) P y
  have h4 : (aheadE code).length ≤ 2048 := Nat.le_trans (List.length_filter_le _ _) (edgesL_le code)
  unfold ctF
  omega
/-- Those that can be reached and to which nothing leads, of the first k. -/
def zeroTo (es : List Edge) (rl : List Bool) (k : Nat) : List Int := (reachTo rl k).filter fun x => decide (ctF es [] x = 0)
theorem zeroTo_no {es : List Edge} {rl : List Bool} {k : Nat} (h : rl.getD k false = false) : zeroTo es rl (k + 1) = zeroTo es rl k ∧ (reachTo rl (k + 1)).length = (reachTo rl k).length := by
  unfold zeroTo; rw [reachTo_succ, h]; simp
theorem zeroTo_yes {es : List Edge} {rl : List Bool} {k : Nat} (h : rl.getD k false = true) : zeroTo es rl (k + 1) = (if ctF es [] k = 0 then zeroTo es rl k ++ [(k : Int)] else zeroTo es rl k) ∧ (reachTo rl (k + 1)).length = (reachTo rl k).length + 1 := by
  unfold zeroTo; rw [reachTo_succ, h, if_pos rfl]
  constructor
  · rw [List.filter_append]
    by_cases e : ctF es [] k = 0
    · simp [e]
    · simp [e]
  · simp
theorem zeroTo_len (es : List Edge) (rl : List Bool) (k : Nat) : (zeroTo es rl k).length ≤ k := Nat.le_trans (List.length_filter_le _ _) (reachTo_len rl k)
theorem reach_mem {code : List Ins} (h1 : code.length ≤ 1024) (x : Int) : x ∈ reachTo (reachL code (-1)) (reachL code (-1)).length ↔ InFn code x := by
  rw [reachTo_mem]
  by_cases hh : hasB code = true
  · rw [reachL_length, if_pos hh]
    constructor
    · rintro ⟨h2, h3, h4⟩
      exact ⟨h2, h3, h1, (reachL_get hh (by omega)).1 h4⟩
    · intro h
      have := h.lo; have := h.hi
      exact ⟨h.lo, h.hi, (reachL_get hh (by omega)).2 h.way⟩
  · rw [reachL_length, if_neg hh]
    constructor
    · rintro ⟨h2, h3, _⟩; omega
    · intro h
      have h2 := h.lo; have h3 := h.hi
      exact absurd (by simp [hasB]; omega) hh
theorem ki_start {code : List Ins} {rl : List Bool} {k : Nat} (h1 : code.length ≤ 1024) (hr : rl = reachL code (-1)) (hk : k = rl.length) : KI (aheadE code) (InFn code) [] (zeroTo (aheadE code) rl k) (ctF (aheadE code) []) := by
  subst hk; subst hr
  refine KI.start ((reachTo_nodup _ _).filter _) fun x => ?_
  unfold zeroTo
  rw [List.mem_filter, reach_mem h1]
  simp [ctF]
theorem ki_len {code : List Ins} {P T : List Int} {F : Int → Int} (h : KI (aheadE code) (InFn code) P T F) : (P ++ T).length ≤ 1024 :=
  set_small h.nodup fun x hx => by have := h.sub x hx; have h1 := this.lo; have h2 := this.hi; have h3 := this.has; omega
theorem way_in {code : List Ins} {v : Int} (h : Way (aheadE code) v v) : InFn code v := by
  obtain ⟨x, hx, _⟩ := h.back
  exact (edge_in (ahead_sub hx)).2
/-- The state of the later loops: the counts, the list of those to be taken away. -/
structure RS (w w4 W : World) (F : Int → Int) (q : Value) (T : List Int) : Prop where
  map : IMap W (w.heap.size + 2) F
  todo : OwnInts W w4.heap.size q T
  keep : Keep w4.heap.size (w.heap.size + 2) w4 W
  size : w4.heap.size ≤ W.heap.size
/-- The call's memory: the graph's box, the function's box. -/
structure RB (w W : World) (b0 : Nat) (s : ByteArray) (vp : Value) (regs words : Int) (vc : Value) : Prop where
  box : BoxG W w.heap.size b0
  fn : FnAt W (w.heap.size + 1) s vp regs words vc
  below : Below w.heap.size w W
  size : w.heap.size + 3 ≤ W.heap.size
theorem RB.keep {w W W' : World} {b0 B : Nat} {s : ByteArray} {vp : Value} {regs words : Int} {vc : Value} (h : RB w W b0 s vp regs words vc) (hk : Keep B (w.heap.size + 2) W W') (hB : w.heap.size + 3 ≤ B) : RB w W' b0 s vp regs words vc :=
  ⟨h.box.keep hk (by omega) (by omega), ⟨(hk.cell (p := ⟨w.heap.size + 1, 0, none⟩) (by show w.heap.size + 1 < _; omega) (by simp)).trans h.fn.c0, (hk.cell (p := ⟨w.heap.size + 1, 1, none⟩) (by show w.heap.size + 1 < _; omega) (by simp)).trans h.fn.c1,
    (hk.cell (p := ⟨w.heap.size + 1, 2, none⟩) (by show w.heap.size + 1 < _; omega) (by simp)).trans h.fn.c2, (hk.cell (p := ⟨w.heap.size + 1, 3, none⟩) (by show w.heap.size + 1 < _; omega) (by simp)).trans h.fn.c3, (hk.cell (p := ⟨w.heap.size + 1, 4, none⟩) (by show w.heap.size + 1 < _; omega) (by simp)).trans h.fn.c4⟩,
   h.below.trans (hk.below (by omega) (by omega)), Nat.le_trans h.size hk.size⟩
theorem RB.start (w : World) (b0 : Nat) (s : ByteArray) (vp : Value) (regs words : Int) (vc : Value) :
    RB w (((w.alloc (.cells #[.map (some b0), .map (some (b0 + 1)), .map (some (b0 + 2))] 59)).alloc (.cells #[.string s, vp, .int .i64 regs, .int .i64 words, vc] 25)).alloc (.map #[] 0)) b0 s vp regs words vc := by
  refine ⟨(BoxG.box w b0 _).later (((Below.refl (w.heap.size + 1) _).alloc (by (try simp only [World.size_alloc]); (try simp only [size_set]); omega) _).alloc (by (try simp only [World.size_alloc]); (try simp only [size_set]); omega) _) (Nat.lt_succ_self _), ?_, ((((Below.refl _ _).alloc (Nat.le_refl _) _).alloc (by (try simp only [World.size_alloc]); (try simp only [size_set]); omega) _).alloc (by (try simp only [World.size_alloc]); (try simp only [size_set]); omega) _), by simp⟩
  have := FnAt.box (w.alloc (.cells #[.map (some b0), .map (some (b0 + 1)), .map (some (b0 + 2))] 59)) s vp regs words vc 25
  rw [World.size_alloc] at this
  exact this.later ((Below.refl (w.heap.size + 2) _).alloc (by (try simp only [World.size_alloc]); (try simp only [size_set]); omega) _) (by omega)

set_option maxRecDepth 100000 in
set_option maxHeartbeats 8000000 in
theorem round_any (b0 : Nat) (s : ByteArray) (vp : Value) (regs words : Int) (vc : Value) (code : List Ins) (w : World) (hg : GraphIn w b0 code) (hc : CodeIn w vc code) (hn1 : code.length ≤ 1024) :
    Calls Tryd.prog 21 #[graphV b0, fnV s vp regs words vc] w (RetRound code w) := by
  have hcv := hc
  obtain ⟨-, ac, cc, rfl, -⟩ := hcv
  obtain ⟨Bg, Ng, V, hgg, hNg⟩ := hg
  have hlow : b0 + 3 ≤ Bg := hgg.low
  have hb0 : b0 + 3 ≤ w.heap.size := by have := (hgg.map 2 (by omega)).lt; omega
  obtain ⟨n, hn⟩ : ∃ n, n = code.length := ⟨_, rfl⟩
  rw [← hn] at hc hn1 ⊢
  obtain ⟨W3, hW3⟩ : ∃ W3, W3 = ((w.alloc (.cells #[.map (some b0), .map (some (b0 + 1)), .map (some (b0 + 2))] 59)).alloc (.cells #[.string s, vp, .int .i64 regs, .int .i64 words, .slice ac n cc] 25)).alloc (.map #[] 0) := ⟨_, rfl⟩
  have hRB := RB.start w b0 s vp regs words (.slice ac n cc)
  have him := IMap.made ((w.alloc (.cells #[.map (some b0), .map (some (b0 + 1)), .map (some (b0 + 2))] 59)).alloc (.cells #[.string s, vp, .int .i64 regs, .int .i64 words, .slice ac n cc] 25))
  rw [← hW3] at hRB him
  rw [World.size_alloc, World.size_alloc] at him
  have hs3 : W3.heap.size = w.heap.size + 3 := by rw [hW3]; simp
  have hm3 := (hgg.later hRB.below).map 1 (by omega)
  have hbo := hRB.box.c1
  have HR := Lib.hid hRB
  have Him := Lib.hid him
  have Hgg := Lib.hid hgg
  have Hc := Lib.hid hc
  have Hn := Lib.hid hn
  have HNg := Lib.hid hNg
  have HW3 := Lib.hid hW3
  have Hs3 := Lib.hid hs3
  have Hm3 := Lib.hid hm3
  have hmm := @run_makeMap Tryd.prog
  clear hgg hc hn hW3 hRB him hs3 hm3 hNg
  go_enter Tryd.func21, Tryd.ntmps21
  unfold graphV
  go_wp2_with (rw [← HW3.out]; at_range; refine gm_range rfl _ rfl (b0 + 1) Ng (V 1) rfl Hm3.out ?_; intro w4 left cnt hrg hleft hg4 hs4)
  go_frame
  obtain ⟨r, hr⟩ : ∃ r, r = W3.heap.size := ⟨_, rfl⟩
  rw [← hr] at hrg ⊢
  have hr3 : r ≤ w.heap.size + 3 := by rw [hr, Hs3.out]; exact Nat.le_refl _
  have hr4 : w.heap.size + 3 ≤ r := by rw [hr, Hs3.out]; exact Nat.le_refl _
  have H4 := Lib.hid (And.intro hrg (And.intro hleft (And.intro hg4 (And.intro hs4 hr))))
  clear hrg hleft hg4 hs4 hr hbo hmm
  go_loopw [] (fun wi => ∃ (left : Lit → Bool) (cnt : Nat) (ks : List Int), GRange wi (b0 + 1) r Ng (V 1) left cnt ∧ IMap wi (w.heap.size + 2) (c0F (aheadE code) ks) ∧ Gone (V 1) left ks ∧ Keep r (w.heap.size + 2) W3 wi ∧ r + 1 ≤ wi.heap.size) (fun wi => wi.rangeLeft (b0 + 1) r)
  case atStart =>
    obtain ⟨hrg, hleft, hg4, hs4, hr⟩ := H4.out
    refine ⟨left, cnt, [], hrg, ?_, Gone.start hleft, (Keep.refl _ _ _).grown hg4 (by omega) (by intro k e; cases e), by omega⟩
    rw [c0F_nil]
    exact Him.out.kept hg4 (by simp)
  case round =>
    obtain ⟨left, cnt, ks, hrg, him, hgo, hkp, hsz⟩ := hrel
    have Hrg := Lib.hid hrg
    have Hi := Lib.hid (And.intro him (And.intro hgo hkp))
    clear hrg him hgo hkp
    go_wp2_with (at_next; refine gm_next rfl _ rfl (b0 + 1) r Ng (V 1) left cnt rfl Hrg.out ?_ ?_)
    · intro hl0
      have hall : ∀ e ∈ aheadE code, e.1 ∈ ks := fun e he => by
        refine Hi.out.2.1.all e.1 (fun hv => ?_) (hl0 _)
        have h1 : outI (aheadE code) e.1 = [] := owns_nil (by have := Hgg.out.each 1 e.1 (by omega); rw [gf_at1, hv] at this; exact this)
        have h2 := outI_mem.2 (show (e.1, e.2) ∈ aheadE code from he)
        rw [h1] at h2; cases h2
      have hct : IMap wr (w.heap.size + 2) (ctF (aheadE code) []) := by rw [← c0F_all hall]; exact Hi.out.1
      have hRw := HR.out.keep Hi.out.2.2 hr4
      have hcR : CodeIn wr (.slice ac n cc) code := SliceIn.later Hc.out hRw.below
      obtain ⟨f0, f1, f2, f3, f4⟩ := hRw.fn
      have hlt1 : w.heap.size + 1 < wr.heap.size := by omega
      have HRw := Lib.hid (And.intro hct (And.intro hRw hcR))
      clear hall hct hRw hcR hl0
      go_wp2_with fail
      refine (reach_any _ _ _ _ _ code _ (by rw [← Hn.out]; omega) HRw.out.2.2).mono ?_
      rintro e w4 ⟨v4, rfl, hv4, hb4⟩
      obtain ⟨hct, hRw, hcR⟩ := HRw.out
      have hR4 : RB w w4 b0 s vp regs words (.slice ac n cc) := hRw.keep (Keep.of_below hb4) (by omega)
      have hct4 : IMap w4 (w.heap.size + 2) (ctF (aheadE code) []) := hct.later hb4 (by omega)
      obtain ⟨rl, hrl⟩ : ∃ rl, rl = reachL code (-1) := ⟨_, rfl⟩
      rw [← hrl] at hv4
      obtain ⟨nL, hnL⟩ : ∃ nL, nL = rl.length := ⟨_, rfl⟩
      have hnl1 : nL ≤ 1024 := by rw [hnL, hrl, reachL_length, ← Hn.out]; split <;> omega
      obtain ⟨a4, c4, rfl, ha4⟩ : ∃ a4 c4, v4 = .slice a4 nL c4 ∧ (0 < nL → ∃ g, a4 = some ⟨g, 0, none⟩ ∧ w.heap.size + 3 ≤ g ∧ g < w4.heap.size) := by
        rcases hv4.form with ⟨h, h2⟩ | ⟨g, c, h, h3, h4, _⟩
        · exact ⟨none, 0, by rw [h, hnL, h2]; rfl, fun h => by rw [hnL, h2] at h; simp at h⟩
        · exact ⟨_, c, by rw [h, hnL], fun _ => ⟨g, rfl, by omega, h4⟩⟩
      have hz4 : w.heap.size + 3 ≤ w4.heap.size := hR4.size
      have H4' := Lib.hid (And.intro hR4 (And.intro hct4 (And.intro hv4 (And.intro hrl hnL))))
      clear hct hRw hcR hR4 hct4 hv4 hb4 hrl hnL HRw Hi Hrg f0 f1 f2 f3 f4 hlt1 hsz
      go_wp2_with fail
      go_loopw [11, 12, 41] (fun a q i wi => ∃ k : Nat, k ≤ nL ∧ a = .int .i64 ((reachTo rl k).length : Int) ∧ i = .int .i64 (k : Int) ∧ RS w w4 wi (ctF (aheadE code) []) q (zeroTo (aheadE code) rl k)) (fun _ _ i _ => nL - (intOf i).toNat)
      case atStart => exact ⟨0, Nat.zero_le _, rfl, rfl, H4'.out.2.1, World.ownsRow_nil _ _ _ _, Keep.refl _ _ _, Nat.le_refl _⟩
      case round =>
        obtain ⟨k, hk, rfl, rfl, hS⟩ := hrel
        have HS := Lib.hid hS
        have hls := reachTo_len rl k
        have hzl := zeroTo_len (aheadE code) rl k
        by_cases hkn : k < nL
        · obtain ⟨g, rfl, hgw, hg4⟩ := ha4 (by omega)
          have hck : wr.cell? ⟨g, k, none⟩ = some (.bool (rl.getD k false)) :=
            (hS.keep.cell (p := ⟨g, k, none⟩) hg4 (by show g ≠ _; omega)).trans (OwnBools.cell H4'.out.2.2.1 (by rw [← H4'.out.2.2.2.2]; exact hkn))
          obtain ⟨R, hR⟩ : ∃ R, R = (reachTo rl k).length := ⟨_, rfl⟩
          rw [← hR] at hls ⊢
          have Hw := Lib.hid hR
          clear hS hR
          cases hb : rl.getD k false
          · have Hb := Lib.hid (zeroTo_no (es := aheadE code) hb)
            rw [hb] at hck
            clear hb
            go_wp2_with fail
            go_roundw
            case rel =>
              refine ⟨k + 1, hkn, ?_, by go_num, ?_⟩
              · rw [Hb.out.2, ← Hw.out]
              · rw [Hb.out.1]; exact HS.out
            case measure => simp [intOf]; omega
          · have hzy := zeroTo_yes (es := aheadE code) hb
            rw [hb] at hck
            have hFr := ctF_range code [] (k : Int)
            obtain ⟨Fk, hFk⟩ : ∃ z, z = ctF (aheadE code) [] (k : Int) := ⟨_, rfl⟩
            rw [← hFk] at hFr hzy
            have HFk := Lib.hid hFk
            have Hb := Lib.hid hzy
            clear hb hzy hFk
            by_cases hz : Fk = 0
            · have hzq : (Fk == 0) = true := by simp [hz]
              have Hb2 := Hb.out.1
              rw [if_pos hz] at Hb2
              have Hb2 := Lib.hid Hb2
              have hll : (zeroTo (aheadE code) rl k).length ≤ 1000000000000 := by omega
              have hsz := HS.out.size
              clear hz
              go_wp2_with (first | (at_lookup; refine im_look rfl _ _ rfl (w.heap.size + 2) _ rfl HS.out.map (k : Int) rfl (by omega) Fk HFk.out.symm ?_) | (at_builtin; refine append_int rfl _ _ rfl w4.heap.size _ (zeroTo (aheadE code) rl k) rfl HS.out.todo (k : Int) rfl hll hsz ?_))
              intro v5 w5 ho5 hg5 hf5 hb5
              have hbB := hb5 w4.heap.size wr (Below.refl _ _) (Nat.le_refl _)
              have H5 : Hid (RS w w4 w5 (ctF (aheadE code) []) v5 (zeroTo (aheadE code) rl (k + 1))) := by
                refine ⟨HS.out.map.later hbB (by omega), ?_, HS.out.keep.trans (Keep.of_below hbB), by have := hbB.size; omega⟩
                rw [Hb2.out]; exact ho5
              clear ho5 hg5 hf5 hb5 hbB
              go_wp2_with fail
              go_roundw
              case rel => exact ⟨k + 1, hkn, by rw [Hb.out.2, ← Hw.out]; go_num, by go_num, H5.out⟩
              case measure => simp [intOf]; omega
            · have hzq : (Fk == 0) = false := by simp [hz]
              have Hb2 := Hb.out.1
              rw [if_neg hz] at Hb2
              have Hb2 := Lib.hid Hb2
              clear hz
              go_wp2_with (at_lookup; refine im_look rfl _ _ rfl (w.heap.size + 2) _ rfl HS.out.map (k : Int) rfl (by omega) Fk HFk.out.symm ?_)
              go_roundw
              case rel => exact ⟨k + 1, hkn, by rw [Hb.out.2, ← Hw.out]; go_num, by go_num, by rw [Hb2.out]; exact HS.out⟩
              case measure => simp [intOf]; omega
        · obtain rfl : nL = k := by omega
          have hKI := ki_start (code := code) (rl := rl) (k := nL) (by rw [← Hn.out]; exact hn1) H4'.out.2.2.2.1 H4'.out.2.2.2.2
          have HKI := Lib.hid hKI
          obtain ⟨nR, hnR⟩ : ∃ nR, nR = (reachTo rl nL).length := ⟨_, rfl⟩
          rw [← hnR] at hls ⊢
          have HnR := Lib.hid hnR
          clear hS hkn hKI hnR
          go_wp2_with fail
          go_loopg [11, 12] 1024 (fun gh a q wi => ∃ P T, (gh = 1024 - P.length ∧ P.length ≤ 1024) ∧ a = .int .i64 ((nR : Int) - (P.length : Int)) ∧ KI (aheadE code) (InFn code) P T (ctF (aheadE code) P) ∧ RS w w4 wi (ctF (aheadE code) P) q T)
          case atStart => exact ⟨[], _, ⟨rfl, by simp⟩, by simp, HKI.out, HS.out⟩
          case round =>
            clear HS HKI
            obtain ⟨P, T, hg, rfl, hK, hS⟩ := hrel
            have hRw := H4'.out.1.keep hS.keep hz4
            have hbo := hRw.box.c1
            have hlt0 : w.heap.size < wr.heap.size := by have := hS.size; omega
            have HR5 := Lib.hid hRw
            have HS := Lib.hid hS
            have HK := Lib.hid hK
            have Hg := Lib.hid hg
            clear hg hK hS hRw
            rcases snoc_cases T with rfl | ⟨t, u, rfl⟩
            · have hnq : u12 = .slice none 0 0 ∨ ∃ g c, u12 = .slice (some ⟨g, 0, none⟩) 0 c := by
                rcases HS.out.todo.form with ⟨h, _⟩ | ⟨g, c, h, _⟩
                · exact Or.inl h
                · exact Or.inr ⟨g, c, h⟩
              have hPr : P.length ≤ nR ∧ (P.length = nR → ∀ v, ¬ Way (aheadE code) v v) ∧ ∀ v, Way (aheadE code) v v → 0 < ctF (aheadE code) P v := by
                have hPn : P.Nodup := by have := HK.out.nodup; simpa using this
                have hPs : ∀ x ∈ P, x ∈ reachTo rl nL := fun x hx => by
                  rw [H4'.out.2.2.2.2, H4'.out.2.2.2.1]
                  exact (reach_mem (by rw [← Hn.out]; exact hn1) x).2 (HK.out.sub x (by simpa using hx))
                refine ⟨by rw [HnR.out]; exact nodup_subL _ _ hPn hPs, fun he v hv => ?_, fun v hv => (KI.rest HK.out hv).2⟩
                have h1 := sub_lt hPn hPs (v := v) (by
                  rw [H4'.out.2.2.2.2, H4'.out.2.2.2.1]
                  exact (reach_mem (by rw [← Hn.out]; exact hn1) v).2 (way_in hv)) (KI.rest HK.out hv).1
                rw [← HnR.out] at h1
                omega
              obtain ⟨hP1, hP2, hP3⟩ := hPr
              have Hbw : Hid (Below w.heap.size w wr) := HR5.out.below
              have hfn := HR5.out.fn.c4
              have hlt1 : w.heap.size + 1 < wr.heap.size := by have := HR5.out.size; omega
              obtain ⟨PN, hPN⟩ : ∃ PN, PN = P.length := ⟨_, rfl⟩
              rw [← hPN] at hP1 hP2 ⊢
              have hP9 : PN ≤ 1024 := by have := Hg.out; omega
              have hR9 : nR ≤ 1024 := by omega
              have HP3 := Lib.hid hP3
              have HP2 := Lib.hid hP2
              have HPN := Lib.hid hPN
              clear hP2 hP3 hPN
              obtain ⟨wE, hwE⟩ : ∃ wE : World, wE = wr := ⟨_, rfl⟩
              subst hwE
              rcases hnq with rfl | ⟨g9, c9, rfl⟩
              all_goals
                by_cases hz : PN = nR
                · have hzq : ((nR : Int) - (PN : Int) == 0) = true := by simp; omega
                  have Hno := Lib.hid (HP2.out hz)
                  clear hz
                  go_wp2_with fail
                  refine bodyPost_ret (results_tmp2 rfl _ _ _) rfl ?_
                  exact ⟨0, false, rfl, .inr ⟨rfl, rfl, Hno.out⟩, Hbw.out⟩
                · have hzq : ((nR : Int) - (PN : Int) == 0) = false := by simp; omega
                  clear hz
                  go_wp2_with fail
                  go_loopw [101] (fun i wi => ∃ k : Nat, k ≤ n ∧ i = .int .i64 (k : Int) ∧ (∀ v : Int, v < k → ¬ Way (aheadE code) v v) ∧ Below wE.heap.size wE wi) (fun i _ => n - (intOf i).toNat)
                  case atStart => exact ⟨0, Nat.zero_le _, rfl, fun v hv hw => by have := (way_in hw).lo; omega, Below.refl _ _⟩
                  case round =>
                    obtain ⟨k, hk, rfl, hno, hbk⟩ := hrel
                    have Hno := Lib.hid hno
                    have Hbk := Lib.hid (Hbw.out.trans (hbk.mono (by omega)))
                    have HFk := Lib.hid (HS.out.map.later hbk (by have := HR5.out.size; omega))
                    have hR5k := HR5.out.keep (Keep.of_below (b := w.heap.size + 2) (hbk)) (by have := HR5.out.size; omega)
                    have hc0 := hR5k.box.c0
                    have hc1 := hR5k.box.c1
                    have hc2 := hR5k.box.c2
                    have hltk : w.heap.size < wr.heap.size := by have := hbk.size; omega
                    have Hbk2 := Lib.hid hbk
                    clear hno hbk hR5k
                    by_cases hkn : k < n
                    · have hFr := ctF_range code P (k : Int)
                      obtain ⟨Fk, hFk⟩ : ∃ z, z = ctF (aheadE code) P (k : Int) := ⟨_, rfl⟩
                      rw [← hFk] at hFr
                      have HFk2 := Lib.hid hFk
                      have Hmk : Hid (IMap wr (w.heap.size + 2) (ctF (aheadE code) P)) := HFk
                      clear hFk
                      by_cases hz : 0 < Fk
                      · have hG : GraphIn wr b0 code := ⟨Bg, Ng, V, Hgg.out.later Hbk.out, HNg.out⟩
                        have HG := Lib.hid hG
                        clear hG
                        go_wp2_with (at_lookup; refine im_look rfl _ _ rfl (w.heap.size + 2) _ rfl Hmk.out (k : Int) rfl (by omega) Fk HFk2.out.symm ?_)
                        refine (comes_any b0 code (k : Int) _ HG.out (by omega)).mono ?_
                        rintro e w9 ⟨rfl, hb9⟩
                        have Hb9 := Lib.hid hb9
                        clear hb9
                        cases hw : wayB code (k : Int)
                        · have Hw : Hid (¬ Way (aheadE code) (k : Int) (k : Int)) := fun h => by rw [wayB_true h] at hw; cases hw
                          clear hw
                          go_wp2_with fail
                          go_roundw
                          case rel =>
                            refine ⟨k + 1, hkn, by go_num, fun v hv h => ?_, Hbk2.out.trans (Hb9.out.mono Hbk2.out.size)⟩
                            by_cases e : v = k
                            · subst e; exact Hw.out h
                            · exact Hno.out v (by omega) h
                          case measure => simp [intOf]; omega
                        · have Hw : Hid (Way (aheadE code) (k : Int) (k : Int)) := wayB_iff.1 hw
                          clear hw
                          go_wp2_with fail
                          refine bodyPost_ret (results_tmp2 rfl _ _ _) rfl ?_
                          refine ⟨(k : Int), true, rfl, .inl ⟨rfl, by omega, by rw [← Hn.out]; omega, Hw.out, fun v hv => ?_⟩, Hbk.out.trans (Hb9.out.mono (by omega))⟩
                          exact Int.not_lt.1 (fun h => Hno.out v h hv)
                      · have Hw : Hid (¬ Way (aheadE code) (k : Int) (k : Int)) := fun h => by
                          have := HP3.out _ h
                          rw [← HFk2.out] at this
                          exact hz this
                        have hzq : decide (0 < Fk) = false := by simp; omega
                        clear hz
                        go_wp2_with (at_lookup; refine im_look rfl _ _ rfl (w.heap.size + 2) _ rfl Hmk.out (k : Int) rfl (by omega) Fk HFk2.out.symm ?_)
                        go_roundw
                        case rel =>
                          refine ⟨k + 1, hkn, by go_num, fun v hv h => ?_, Hbk2.out⟩
                          by_cases e : v = k
                          · subst e; exact Hw.out h
                          · exact Hno.out v (by omega) h
                        case measure => simp [intOf]; omega
                    · obtain rfl : n = k := by omega
                      have Hno2 : Hid (∀ v, ¬ Way (aheadE code) v v) := fun v h => by
                        have h1 := (way_in h).hi
                        rw [← Hn.out] at h1
                        exact Hno.out v h1 h
                      clear hkn
                      go_wp2_with fail
                      refine bodyPost_ret (results_tmp2 rfl _ _ _) rfl ?_
                      exact ⟨0, false, rfl, .inr ⟨rfl, rfl, Hno2.out⟩, Hbk.out⟩
            · have hKl := ki_len HK.out
              have hu := HK.out.sub u (by simp)
              have hu0 := hu.lo
              have hu1 : u < 1024 := by have := hu.hi; have := hu.has; omega
              obtain ⟨hpop, hnu⟩ := KI.pop HK.out
              have hform : ∃ g4 c4, u12 = .slice (some ⟨g4, 0, none⟩) (t.length + 1) c4 ∧ w4.heap.size ≤ g4 ∧ g4 < wr.heap.size ∧ t.length + 1 ≤ c4 := by
                rcases HS.out.todo.form with ⟨_, h⟩ | ⟨g, c, h, h2⟩
                · simp at h
                · exact ⟨g, c, by simpa using h, by simpa using h2⟩
              obtain ⟨g5, c5, rfl, hg5, hg5s, hc5⟩ := hform
              have hcx : wr.cell? ⟨g5, t.length, none⟩ = some (.int .i64 u) := by
                have := HS.out.todo.cell (k := t.length) (by simp)
                simpa [List.getD] using this
              have hown := OwnInts.pop HS.out.todo rfl
              have hown1 : OwnInts wr Bg (V 1 u) (outI (aheadE code) u) := by
                have := (Hgg.out.later HR5.out.below).each 1 u (by omega)
                rw [gf_at1] at this; exact this
              have hm5 := (Hgg.out.later HR5.out.below).map 1 (by omega)
              obtain ⟨ax, cx, hvx, hax⟩ : ∃ ax cx, V 1 u = .slice ax (outI (aheadE code) u).length cx ∧ (0 < (outI (aheadE code) u).length → ∃ g, ax = some ⟨g, 0, none⟩) := by
                rcases hown1.form with ⟨h, h2⟩ | ⟨g, c, h, _⟩
                · exact ⟨none, 0, by rw [h, h2]; rfl, fun h => by rw [h2] at h; simp at h⟩
                · exact ⟨_, _, h, fun _ => ⟨g, rfl⟩⟩
              have hl0 := outI_len2 code u
              obtain ⟨nl, hnl⟩ : ∃ nl, nl = (outI (aheadE code) u).length := ⟨_, rfl⟩
              rw [← hnl] at hvx hax hl0
              obtain ⟨PN, hPN⟩ : ∃ PN, PN = P.length := ⟨_, rfl⟩
              simp only [List.length_append, List.length_singleton] at hKl
              obtain ⟨n4, hn4⟩ : ∃ n4, n4 = t.length := ⟨_, rfl⟩
              rw [← hn4] at hcx hown hc5 hKl ⊢
              rw [← hPN] at hKl ⊢
              obtain ⟨m, hm⟩ : ∃ m, m = n4 + 1 := ⟨_, rfl⟩
              rw [← hm] at hc5 ⊢
              have hm9 : m ≤ 1024 := by omega
              have hP9 : PN ≤ 1024 := by omega
              have hm1 : m - 1 = n4 := by omega
              rw [← hm1] at hcx hown
              have hm0 : 0 < m := by omega
              have Hu := Lib.hid (And.intro hown (And.intro hown1 (And.intro hpop (And.intro hnu (And.intro hnl (And.intro hPN (And.intro hn4 hm)))))))
              have Hm5 := Lib.hid hm5
              have hu9 : -9223372036854775808 ≤ u ∧ u ≤ 9223372036854775807 := by omega
              clear hown hown1 hpop hnu hnl hPN hn4 hm hm1 hm5 hKl hu
              go_wp2_with (at_lookup; refine gm_look rfl _ _ rfl (b0 + 1) Ng (V 1) rfl Hm5.out u rfl hu9 ?_; rw [hvx])
              go_loopw [12, 79] (fun q i wi => ∃ (k : Nat) (T : List Int), k ≤ nl ∧ i = .int .i64 (k : Int) ∧ KI (aheadE code) (InFn code) (P ++ [u]) T (takeF (aheadE code) P u k) ∧ RS w w4 wi (takeF (aheadE code) P u k) q T) (fun _ i _ => nl - (intOf i).toNat)
              case atStart =>
                obtain ⟨hown, hown1, hpop, hnu, hnl, hPN, hn4, hm⟩ := Hu.out
                refine ⟨0, t, Nat.zero_le _, rfl, hpop, ⟨?_, ?_, HS.out.keep, HS.out.size⟩⟩
                · rw [takeF_zero]; exact HS.out.map
                · exact hown
              case round =>
                obtain ⟨k, T, hk, rfl, hK5, hS5⟩ := hrel
                have HK5 := Lib.hid hK5
                have HS5 := Lib.hid hS5
                have hRk := H4'.out.1.keep hS5.keep hz4
                have hTl := ki_len hK5
                have hsz := hS5.size
                simp only [List.length_append, List.length_singleton] at hTl
                by_cases hkn : k < nl
                · obtain ⟨g, rfl⟩ := hax (by omega)
                  have hownk : OwnInts wr Bg (V 1 u) (outI (aheadE code) u) := by
                    have := (Hgg.out.later hRk.below).each 1 u (by omega)
                    rw [gf_at1] at this; exact this
                  obtain ⟨y, hy⟩ : ∃ y, (outI (aheadE code) u)[k]? = some y := ⟨_, List.getElem?_eq_getElem (by rw [← Hu.out.2.2.2.2.1]; exact hkn)⟩
                  have hyin := (edge_in (ahead_sub (outI_mem.1 (List.mem_of_getElem? hy)))).2
                  have hy0 := hyin.lo
                  have hy1 : y < 1024 := by have := hyin.hi; have := hyin.has; omega
                  have hcy : wr.cell? ⟨g, k, none⟩ = some (.int .i64 y) := by
                    rw [hvx] at hownk
                    have := OwnInts.cell hownk (k := k) (by rw [← Hu.out.2.2.2.2.1]; exact hkn)
                    rw [this, List.getD_eq_getElem?_getD, hy]; rfl
                  have hnu := Hu.out.2.2.2.1
                  have hpos := takeF_pos hnu hy
                  have hFr := takeF_range (aheadE code) P u hnu k y
                  have hA9 : (aheadE code).length ≤ 2048 := Nat.le_trans (List.length_filter_le _ _) (edgesL_le code)
                  have hst := takeF_succ (P := P) hy
                  have hstay : takeF (aheadE code) P u k y - 1 ≠ 0 → KI (aheadE code) (InFn code) (P ++ [u]) T (takeF (aheadE code) P u (k + 1)) := fun h => HK5.out.stay hnu hy hyin h
                  have hpush : takeF (aheadE code) P u k y - 1 = 0 → KI (aheadE code) (InFn code) (P ++ [u]) (T ++ [y]) (takeF (aheadE code) P u (k + 1)) := fun h => HK5.out.push hnu hy hyin h
                  obtain ⟨Fy, hFy⟩ : ∃ z, z = takeF (aheadE code) P u k y := ⟨_, rfl⟩
                  rw [← hFy] at hpos hFr hst hstay hpush
                  have hF2 : takeF (aheadE code) P u (k + 1) y = Fy - 1 := by rw [hst]; simp
                  have hF9 : Fy ≤ 9000 := by omega
                  have HF := Lib.hid hFy
                  have HF2 := Lib.hid hF2
                  have Hst := Lib.hid hst
                  have Hnx := Lib.hid (And.intro hstay hpush)
                  have hTll : T.length ≤ 1000000000000 := by omega
                  clear hK5 hS5 hRk hownk hy hyin hst hFy hnu hstay hpush hF2 hTl hFr hA9
                  go_wp2_with (first | (at_lookup; refine im_look rfl _ _ rfl (w.heap.size + 2) _ rfl HS5.out.map y rfl (by omega) Fy HF.out.symm ?_) | (at_mapUpdate; refine im_put rfl _ _ _ rfl (w.heap.size + 2) _ rfl HS5.out.map y rfl (Fy - 1) rfl ⟨hy0, hy1⟩ ?_))
                  intro w6 him6 hg6
                  rw [← Hst.out] at him6
                  have hkp6 : Keep w4.heap.size (w.heap.size + 2) w4 w6 := HS5.out.keep.grown hg6 hsz (fun k e => by cases e; exact .inr rfl)
                  have ho6 : OwnInts w6 w4.heap.size u12 T := HS5.out.todo.kept hg6 (by
                    cases hb : u12.ownBlock with
                    | none => exact .inl rfl
                    | some b => exact .inr (by intro e; have := Option.some.inj e; have := (World.ownsRow.lt HS5.out.todo b hb).1; omega))
                  have hsz6 : w4.heap.size ≤ w6.heap.size := Nat.le_trans hsz hg6.size
                  have H6 := Lib.hid (And.intro him6 (And.intro hkp6 ho6))
                  clear him6 hkp6 ho6 hg6
                  by_cases hz : Fy - 1 = 0
                  · have hzq : (Fy - 1 == 0) = true := by simp [hz]
                    have Hp := Lib.hid (Hnx.out.2 hz)
                    clear hz
                    go_wp2_with (first | (at_lookup; refine im_look rfl _ _ rfl (w.heap.size + 2) _ rfl H6.out.1 y rfl (by omega) (Fy - 1) HF2.out ?_) | (at_builtin; refine append_int rfl _ _ rfl w4.heap.size _ T rfl H6.out.2.2 y rfl hTll hsz6 ?_))
                    intro v7 w7 ho7 hg7 hf7 hb7
                    have hbB := hb7 w4.heap.size w6 (Below.refl _ _) (Nat.le_refl _)
                    have H7 : Hid (RS w w4 w7 (takeF (aheadE code) P u (k + 1)) v7 (T ++ [y])) := ⟨H6.out.1.later hbB (by omega), ho7, H6.out.2.1.trans (Keep.of_below hbB), by have := hbB.size; omega⟩
                    clear ho7 hg7 hf7 hb7 hbB
                    go_wp2_with fail
                    go_roundw
                    case rel => exact ⟨k + 1, _, hkn, by go_num, Hp.out, H7.out⟩
                    case measure => simp [intOf]; omega
                  · have hzq : (Fy - 1 == 0) = false := by simp [hz]
                    have Hp := Lib.hid (Hnx.out.1 hz)
                    clear hz
                    go_wp2_with (at_lookup; refine im_look rfl _ _ rfl (w.heap.size + 2) _ rfl H6.out.1 y rfl (by omega) (Fy - 1) HF2.out ?_)
                    go_roundw
                    case rel => exact ⟨k + 1, T, hkn, by go_num, Hp.out, ⟨H6.out.1, H6.out.2.2, H6.out.2.1, hsz6⟩⟩
                    case measure => simp [intOf]; omega
                · obtain rfl : nl = k := by omega
                  obtain ⟨hown, hown1, hpop, hnu, hnl, hPN, hn4, hm⟩ := Hu.out
                  have e := takeF_all (es := aheadE code) hnu (i := nl) (by rw [← hnl]; exact Nat.le_refl _)
                  rw [e] at hK5 hS5
                  have Hk := Lib.hid (And.intro hK5 (And.intro hS5 hPN))
                  clear hK5 hS5 HK5 HS5 hown hown1 hpop hnu hnl hPN hn4 hm e hRk
                  go_wp2_with fail
                  go_roundg (1024 - (P ++ [u]).length)
                  case measure => have := Hg.out; have := Hk.out.2.2; simp; omega
                  case rel =>
                    refine ⟨P ++ [u], T, ⟨rfl, by simp; have := Hk.out.2.2; omega⟩, ?_, Hk.out.1, Hk.out.2.1⟩
                    rw [Hk.out.2.2]; simp; go_num
    · intro x w5 cnt' hx8 hx9 _ hlx hrg5 hlt5 hg5 hs5 hen
      have hkp5 : Keep r (w.heap.size + 2) W3 w5 := Hi.out.2.2.grown hg5 (by omega) (fun k e => by cases e; exact .inl (Nat.le_refl _))
      have hR5 := HR.out.keep hkp5 (by omega)
      have hown : OwnInts w5 Bg (V 1 x) (outI (aheadE code) x) := by
        have := (Hgg.out.later hR5.below).each 1 x (by omega)
        rw [gf_at1] at this; exact this
      have him5 : IMap w5 (w.heap.size + 2) (c0F (aheadE code) ks) := Hi.out.1.kept hg5 (by intro e; have := Option.some.inj e; omega)
      obtain ⟨ax, cx, hvx, hax⟩ : ∃ ax cx, V 1 x = .slice ax (outI (aheadE code) x).length cx ∧ (0 < (outI (aheadE code) x).length → ∃ g, ax = some ⟨g, 0, none⟩) := by
        rcases hown.form with ⟨h, h2⟩ | ⟨g, c, h, _⟩
        · exact ⟨none, 0, by rw [h, h2]; rfl, fun h => by rw [h2] at h; simp at h⟩
        · exact ⟨_, _, h, fun _ => ⟨g, rfl⟩⟩
      have hl0 := outI_len2 code x
      rw [hvx] at hen hown ⊢
      obtain ⟨nl, hnl⟩ : ∃ nl, nl = (outI (aheadE code) x).length := ⟨_, rfl⟩
      rw [← hnl] at hen hown hax hl0 ⊢
      have H5 := Lib.hid (And.intro hrg5 (And.intro him5 (And.intro hkp5 (And.intro hown (And.intro hlx hlt5)))))
      have Hnl := Lib.hid hnl
      have hsz5 : r + 1 ≤ w5.heap.size := by omega
      have hvx := Lib.hid hvx
      clear hrg5 him5 hkp5 hown hlx hlt5 hg5 hs5 hR5 hnl
      go_wp2_with fail
      go_loopw [29] (fun i wi => ∃ k : Nat, k ≤ nl ∧ i = .int .i64 (k : Int) ∧ GRange wi (b0 + 1) r Ng (V 1) (fun z => left z && !z.sameKey (.int .i64 x)) cnt' ∧ IMap wi (w.heap.size + 2) (c1F (aheadE code) ks x k) ∧ Keep r (w.heap.size + 2) W3 wi ∧ r + 1 ≤ wi.heap.size) (fun i _ => nl - (intOf i).toNat)
      case atStart =>
        exact ⟨0, Nat.zero_le _, rfl, H5.out.1, by rw [c1F_zero]; exact H5.out.2.1, H5.out.2.2.1, hsz5⟩
      case round =>
        obtain ⟨k, hk, rfl, hrg, him, hkp, hsz⟩ := hrel
        by_cases hkn : k < nl
        · obtain ⟨g, rfl⟩ := hax (by omega)
          have hRk := HR.out.keep hkp (by omega)
          have hown : OwnInts wr Bg (V 1 x) (outI (aheadE code) x) := by
            have := (Hgg.out.later hRk.below).each 1 x (by omega)
            rw [gf_at1] at this; exact this
          obtain ⟨y, hy⟩ : ∃ y, (outI (aheadE code) x)[k]? = some y := ⟨_, List.getElem?_eq_getElem (by rw [← Hnl.out]; exact hkn)⟩
          have hyin := (edge_in (ahead_sub (outI_mem.1 (List.mem_of_getElem? hy)))).2
          have hy0 := hyin.lo
          have hy1 : y < 1024 := by have := hyin.hi; have := hyin.has; omega
          have hcy : wr.cell? ⟨g, k, none⟩ = some (.int .i64 y) := by
            rw [hvx.out] at hown
            have := OwnInts.cell hown (k := k) (by rw [← Hnl.out]; exact hkn)
            rw [this, List.getD_eq_getElem?_getD, hy]; rfl
          have hF := c1F_range code ks x k y
          have hst := c1F_step (ks := ks) hy
          obtain ⟨Fy, hFy⟩ : ∃ z, z = c1F (aheadE code) ks x k y := ⟨_, rfl⟩
          rw [← hFy] at hF hst
          have HF := Lib.hid hFy
          have Hst := Lib.hid hst
          have Hk := Lib.hid (And.intro hrg (And.intro him (And.intro hkp hsz)))
          clear hrg him hkp hRk hown hy hyin hst hFy
          go_wp2_with (first | (at_lookup; refine im_look rfl _ _ rfl (w.heap.size + 2) _ rfl Hk.out.2.1 y rfl (by omega) Fy HF.out.symm ?_) | (at_mapUpdate; refine im_put rfl _ _ _ rfl (w.heap.size + 2) _ rfl Hk.out.2.1 y rfl (Fy + 1) rfl ⟨hy0, hy1⟩ ?_))
          intro w6 him6 hg6
          rw [← Hst.out] at him6
          have hkp6 : Keep r (w.heap.size + 2) W3 w6 := Hk.out.2.2.1.grown hg6 (by have := Hk.out.2.2.2; omega) (fun k e => by cases e; exact .inr rfl)
          have hrg6 := Hk.out.1.kept hg6 (by intro e; have := Option.some.inj e; omega) (by intro e; have := Option.some.inj e; omega)
          have H6 := Lib.hid (And.intro hrg6 (And.intro him6 (And.intro hkp6 (Nat.le_trans Hk.out.2.2.2 hg6.size))))
          clear hrg6 him6 hkp6 hg6
          go_wp2_with fail
          go_roundw
          case rel => exact ⟨k + 1, hkn, by go_num, H6.out.1, H6.out.2.1, H6.out.2.2.1, H6.out.2.2.2⟩
          case measure => simp [intOf]; omega
        · obtain rfl : nl = k := by omega
          have him' : IMap wr (w.heap.size + 2) (c0F (aheadE code) (ks ++ [x])) := by
            rw [c1F_all (Hi.out.2.1.new H5.out.2.2.2.2.1) (by rw [← Hnl.out]; exact Nat.le_refl _)] at him; exact him
          have Hk := Lib.hid (And.intro hrg (And.intro him' (And.intro hkp hsz)))
          clear hrg him him' hkp
          go_wp2_with fail
          go_roundw
          case rel => exact ⟨_, cnt', ks ++ [x], Hk.out.1, Hk.out.2.1, Hi.out.2.1.next H5.out.2.2.2.2.1, Hk.out.2.2.1, Hk.out.2.2.2⟩
          case measure => rw [Hk.out.1.left_eq, Hrg.out.left_eq]; exact H5.out.2.2.2.2.2
end Go.Proofs.YtapjdndcnenadaaDoor
