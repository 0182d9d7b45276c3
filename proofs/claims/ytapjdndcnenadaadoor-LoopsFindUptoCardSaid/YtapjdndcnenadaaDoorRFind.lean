/- The reference's Find: the loops of a function, or what is wrong first. -/
import Derived.Test.YtapjdndcnenadaaDoorFind
import Derived.Test.YtapjdndcnenadaaDoorRSplit
import Derived.Test.YtapjdndcnenadaaDoorRQueue
import Derived.Test.YtapjdndcnenadaaDoorRCounts
import Derived.Test.YtapjdndcnenadaaDoorRSame
namespace Go.Proofs.YtapjdndcnenadaaDoor
open Go.RowKit

open Classical in
/-- How many heads lie ahead of a number. -/
noncomputable def hnum (code : List Ins) (h : Nat) : Nat := ((List.range h).filter fun x : Nat => decide (toI (backsE code) (x : Int) ≠ [])).length
theorem hnum_all (code : List Ins) : hnum code code.length = (headsL code).length := by unfold hnum headsL; rw [List.length_map]
theorem hnum_yes {code : List Ins} {h : Nat} (hp : toI (backsE code) (h : Int) ≠ []) : hnum code (h + 1) = hnum code h + 1 := by
  unfold hnum; rw [List.range_succ, List.filter_append]; simp [hp]
theorem hnum_no {code : List Ins} {h : Nat} (hp : toI (backsE code) (h : Int) = []) : hnum code (h + 1) = hnum code h := by
  unfold hnum; rw [List.range_succ, List.filter_append]; simp [hp]
theorem headsL_at {code : List Ins} {h : Nat} (hh : h < code.length) (hp : toI (backsE code) (h : Int) ≠ []) : (headsL code)[hnum code h]? = some (h : Int) := by
  unfold headsL hnum
  have e : List.range code.length = List.range h ++ (h :: (List.range' (h + 1) (code.length - h - 1))) := by
    rw [List.range_eq_range', List.range_eq_range', ← List.range'_succ, show code.length = h + (code.length - h - 1 + 1) by omega]
    rw [← List.range'_append_1, Nat.zero_add]
    congr 2; omega
  rw [e, List.filter_append, List.filter_cons_of_pos (by simpa using hp), List.map_append]
  rw [List.getElem?_append_right (by simp)]
  simp
theorem Cl.congr {S l : List Int} {f g : Int → List Int} (h : ∀ x y, x ∈ f y → x ∈ g y) {x : Int} (hc : Cl S l f x) : Cl S l g x := by
  induction hc with
  | base h1 => exact .base h1
  | step _ h2 h3 ih => exact .step ih h2 (h _ _ h3)
/-- Whence one comes by the edges ahead and the back edges: by all. -/
theorem from_mem {code : List Ins} {x y : Int} : x ∈ toI (aheadE code ++ backsE code) y ↔ x ∈ toI (edgesL code) y := by
  rw [toI_mem, toI_mem, List.mem_append]
  constructor
  · rintro (h | h)
    · exact ahead_sub h
    · exact backs_sub h
  · intro h
    cases hb : isBack code (x, y)
    · exact .inl (List.mem_filter.2 ⟨h, by simp [hb]⟩)
    · exact .inr (List.mem_filter.2 ⟨h, hb⟩)
open Classical in
noncomputable def memTo (code : List Ins) (h : Int) (k : Nat) : List Int := ((List.range k).filter fun x : Nat => decide (MemP code h (x : Int))).map Int.ofNat
theorem memTo_all (code : List Ins) (h : Int) : memTo code h code.length = memL code h := rfl
theorem memTo_zero (code : List Ins) (h : Int) : memTo code h 0 = [] := rfl
theorem memTo_yes {code : List Ins} {h : Int} {k : Nat} (hp : MemP code h (k : Int)) : memTo code h (k + 1) = memTo code h k ++ [(k : Int)] := by
  unfold memTo; rw [List.range_succ, List.filter_append, List.map_append]; simp [hp]
theorem memTo_no {code : List Ins} {h : Int} {k : Nat} (hp : ¬ MemP code h (k : Int)) : memTo code h (k + 1) = memTo code h k := by
  unfold memTo; rw [List.range_succ, List.filter_append, List.map_append]; simp [hp]
theorem memTo_len (code : List Ins) (h : Int) (k : Nat) : (memTo code h k).length ≤ k := by
  unfold memTo; rw [List.length_map]; exact Nat.le_trans (List.length_filter_le _ _) (by simp)
open Classical in
theorem memF_get {code : List Ins} {n h v : Nat} (hv : v < n) : (memF n h (toI (backsE code) (h : Int)) (toI (aheadE code ++ backsE code))).getD v false = decide (MemP code (h : Int) (v : Int)) := by
  unfold memF MemP
  simp only [List.getD_eq_getElem?_getD, List.getElem?_map, List.getElem?_range hv, Option.map_some, Option.getD_some]
  congr 1
  apply propext
  exact or_congr Iff.rfl ⟨fun h => h.congr (fun x y h => from_mem.1 h), fun h => h.congr (fun x y h => from_mem.2 h)⟩

theorem split_len (code : List Ins) : (aheadE code).length + (backsE code).length = (edgesL code).length := by
  unfold aheadE backsE aheadIn backsIn
  have h : ∀ l : List Edge, (l.filter fun e => !isBack code e).length + (l.filter (isBack code)).length = l.length := fun l => by
    induction l with
    | nil => rfl
    | cons x l ih => cases hx : isBack code x <;> simp [hx] <;> omega
  exact h _
/-- One more loop. -/
theorem FL.snocR {w w9 wr w1 w2 : World} {k : Nat} {Vb : Int → Value} {code : List Ins} {q q' : Value} {Ls : List LP} {h : Int} {vm vb : Value} (hL : FL w w9 wr Vb code k q Ls)
    (hlo : ∀ y, y = h ∨ y ∈ (headsL code).take k → ∀ b, (Vb y).ownBlock = some b → b < w9.heap.size) (hap : ∀ y, y ∈ (headsL code).take k → y ≠ h → ∀ b, (Vb y).ownBlock = some b → (Vb h).ownBlock ≠ some b)
    (hh : (headsL code)[k]? = some h) (hvb : vb = Vb h)
    (hvm : OwnInts w1 wr.heap.size vm (memL code h)) (hvbo : OwnInts w1 w.heap.size vb (toI (backsE code) h)) (hb1 : Below wr.heap.size wr w1) (hw : w.heap.size ≤ w9.heap.size)
    (hok : (countsOf code h (memL code h) (toI (backsE code) h)).1 = 0) (hrow : w2.ownsRow w9.heap.size 40 4 q' (Ls.length + 1) (loopVs Ls ++ [.int .i64 h, .int .i64 (-1), vm, vb]))
    (hg : w1.grownBy w2 q.ownBlock) (hf : Fresh w1 q q') (hb2 : Below w9.heap.size w9 w2) : FL w w9 w2 Vb code (k + 1) q' (Ls ++ [⟨h, -1, vm, vb, memL code h, toI (backsE code) h⟩]) := by
  have hs9 : w9.heap.size ≤ wr.heap.size := hL.below.size
  have hmlo : ∀ b, vm.ownBlock = some b → wr.heap.size ≤ b := fun b hb => (World.ownsRow.lt hvm b hb).1
  have hblo : ∀ b, vb.ownBlock = some b → b < w9.heap.size := fun b hb => by rw [hvb] at hb; exact hlo h (.inl rfl) b hb
  refine ⟨?_, ?_, ?_, ?_, ?_, ?_, hb2⟩
  · refine (hL.own.later hb1).snoc (x := ⟨h, -1, vm, vb, memL code h, toI (backsE code) h⟩) (ownsRow_mono hvm (by omega)) hvbo (fun b hb e => ?_) (fun b hb hm => ?_) (fun b hb hm => ?_) hrow hg hf
    · have := hmlo b hb; have := hblo b e; omega
    · have := hmlo b hb; have := blocks_lt hL.own hm; omega
    · have hlt := hblo b hb
      unfold blocksOf at hm
      rcases List.mem_append.1 hm with hm | hm
      · have := (World.ownsRow.lt hL.own.row b (by simpa using hm)).1; omega
      · obtain ⟨y, hy, hm⟩ := List.mem_flatMap.1 hm
        rcases List.mem_append.1 hm with hm | hm
        · have := hL.vm y hy b (by simpa using hm); omega
        · have hyv : y.vb.ownBlock = some b := by simpa using hm
          rw [hL.vb y hy] at hyv
          simp only at hb
          rw [hvb] at hb
          have hym := (head_mem hL.d hy).1
          refine hap y.head hym (fun e => ?_) b hyv hb
          rw [e] at hym
          obtain ⟨j, hj, ej⟩ := List.mem_iff_getElem.1 hym
          rw [List.length_take] at hj
          rw [List.getElem_take] at ej
          have hs := List.pairwise_iff_getElem.1 (headsL_sorted code) j k (by omega) (List.getElem?_eq_some_iff.1 hh).1 (by omega)
          have ek := (List.getElem?_eq_some_iff.1 hh).2
          omega
  · rw [List.map_append, hL.d, List.take_add_one, hh, List.map_append]; rfl
  · intro x hx
    rcases List.mem_append.1 hx with hx | hx
    · exact hL.par x hx
    · rw [List.mem_singleton.1 hx]
  · intro x hx
    rcases List.mem_append.1 hx with hx | hx
    · exact hL.vb x hx
    · rw [List.mem_singleton.1 hx]; exact hvb
  · intro x hx b hb
    rcases List.mem_append.1 hx with hx | hx
    · exact hL.vm x hx b hb
    · rw [List.mem_singleton.1 hx] at hb; have := hmlo b hb; omega
  · intro j h' hj hh'
    by_cases e : j = k
    · subst e; rw [hh] at hh'; cases hh'; exact hok
    · exact hL.ok j h' (by omega) hh'

/-- 'append(list, other...)' within a region that draws its order. -/
theorem append_edges_wp {o : Oper} {a : Act} {K : Act → World → Prop} {Q : Exit → Act → World → Prop} {w : World} (s x : Operand)
    (ho : o.op = .call { callee := .builtin .append, args := #[s, x], argTypes := #[46, 46] })
    (B : Nat) (v : Value) (l : List Edge) (hs : a.eval s = v) (hown : OwnEdges w B v l) (sv : Value) (l2 : List Edge) (hx : a.eval x = sv) (hsrc : EdgesIn w sv l2)
    (hl : l.length + l2.length ≤ 1000000000) (hB : B ≤ w.heap.size)
    (h : ∀ v' w', OwnEdges w' B v' (l ++ l2) → (∀ C w0, Below C w0 w → C ≤ B → Below C w0 w') → K (a.put o.dst v') w') :
    o.wp Tryd.prog a w K Q := by
  obtain ⟨v', w', hr, h2, h3, h4⟩ := append_run (P := Tryd.prog) (w := w) (t := 46) (ty := o.type) Tryd.underlying46 Tryd.infoEdge rfl (by decide) B v l.length (edgeVs l) hown sv l2.length (edgeVs l2) hsrc
    (by intro u hu; unfold edgeVs at hu; obtain ⟨e, _, hu⟩ := List.mem_flatMap.1 hu; simp at hu; rcases hu with rfl | rfl <;> rfl) (by unfold maxLen; omega) (by omega) hB
  unfold Oper.wp execOp
  simp only [ho, resolve, invoke, builtin, Sem.run_bind, Sem.run_pure, Result.andThen_ok, List.map_toArray, List.map_cons, List.map_nil, hs, hx, hr]
  refine h v' w' (by unfold OwnEdges edgeVs at *; simpa using h2) fun C w0 hb hC => hb.grown h3 (by omega) fun k hk => ?_
  have := (World.ownsRow.lt hown k hk).1
  omega

/-- A loop's box while its members are told. -/
structure MB (wr wx : World) (cB M0 : Nat) (h : Int) (vb : Value) (gb n cb : Nat) (bl : List Bool) (mv : Value) (l : List Int) : Prop where
  c0 : wx.cell? ⟨cB, 0, none⟩ = some (.int .i64 h)
  c1 : wx.cell? ⟨cB, 1, none⟩ = some (.int .i64 (-1))
  c2 : wx.cell? ⟨cB, 2, none⟩ = some mv
  c3 : wx.cell? ⟨cB, 3, none⟩ = some vb
  z : wx.frozen? ⟨cB, 2, none⟩ = false
  bools : OwnBools wx 0 (.slice (some ⟨gb, 0, none⟩) n cb) bl
  mem : OwnInts wx M0 mv l
  below : Below cB wr wx
  le : M0 ≤ wx.heap.size
theorem MB.push {wr wx w' : World} {cB M0 : Nat} {h : Int} {vb : Value} {gb n cb : Nat} {bl : List Bool} {mv v' : Value} {l l' : List Int} (k : MB wr wx cB M0 h vb gb n cb bl mv l) (hc : cB < M0) (hg : gb < M0) (hne : gb ≠ cB)
    (ho : OwnInts w' M0 v' l') (hb : Below M0 wx w') : MB wr (w'.setCell ⟨cB, 2, none⟩ v') cB M0 h vb gb n cb bl v' l' := by
  have e : ∀ j, w'.cell? ⟨cB, j, none⟩ = wx.cell? ⟨cB, j, none⟩ := fun j => hb.cell (p := ⟨cB, j, none⟩) hc
  refine ⟨?_, ?_, ?_, ?_, ?_, ?_, ?_, ?_, ?_⟩
  · rw [World.cell?_setCell_other _ _ _ _ (by simp), e]; exact k.c0
  · rw [World.cell?_setCell_other _ _ _ _ (by simp), e]; exact k.c1
  · exact World.cell?_setCell_same' _ _ _ (by rw [e, k.c2]; rfl)
  · rw [World.cell?_setCell_other _ _ _ _ (by simp), e]; exact k.c3
  · rw [World.frozen?_setCell, hb.frozen (p := ⟨cB, 2, none⟩) hc]; exact k.z
  · exact ownsRow_setCell_other (own_lowB k.bools hb (fun x hx => by simp [Value.ownBlock] at hx; omega)) (fun e => by simp [Value.ownBlock] at e; omega) _
  · exact ownsRow_setCell_below (a := ⟨cB, 2, none⟩) ho hc _
  · exact (k.below.trans (hb.mono (by omega))).setCell (Nat.le_refl _) _
  · rw [size_set]; exact Nat.le_trans k.le hb.size

open Classical in
set_option maxRecDepth 100000 in
set_option maxHeartbeats 8000000 in
theorem rfind_any (s : ByteArray) (vp : Value) (regs words : Int) (vc : Value) (code : List Ins) (w : World) (hlen : code.length * 40 ≤ 140737488351232) (hc : CodeIn w vc code) :
    Calls Tryd.prog 9 #[fnV s vp regs words vc] w (RetFind code w) := by
  have hcv := hc
  obtain ⟨-, ac, cc, rfl, -⟩ := hcv
  have Hlen := Lib.hid hlen
  obtain ⟨n, hn⟩ : ∃ n, n = code.length := ⟨_, rfl⟩
  rw [← hn] at hc ⊢
  have hn9 : n ≤ 1000000000000000 := by omega
  have Hn := Lib.hid hn
  have Hc := Lib.hid hc
  obtain ⟨W1, hW1⟩ : ∃ W1, W1 = w.alloc (.cells #[.string s, vp, .int .i64 regs, .int .i64 words, .slice ac n cc] 25) := ⟨_, rfl⟩
  have hb1 : Below w.heap.size w W1 := by rw [hW1]; exact (Below.refl _ _).alloc (Nat.le_refl _) _
  have hf1 : FnAt W1 w.heap.size s vp regs words (.slice ac n cc) := by rw [hW1]; exact FnAt.box w s vp regs words _ _
  have hs1 : W1.heap.size = w.heap.size + 1 := by rw [hW1]; simp
  have HW1 := Lib.hid hW1
  have H1 := Lib.hid (And.intro hb1 (And.intro hf1 hs1))
  obtain ⟨f0, f1, f2, f3, f4⟩ := hf1
  have hlt1 : w.heap.size < W1.heap.size := by omega
  clear hc hn hlen hW1 hb1 hs1
  by_cases hbig : 1024 < n
  · have Hres : Hid (FindIs code [] 97 1024) := .inl ⟨by rw [← Hn.out]; exact hbig, rfl, rfl, rfl⟩
    go_enter Tryd.func9, Tryd.ntmps9
    go_wp2_with (rw [← HW1.out])
    go_ret3
    exact ⟨_, [], 97, 1024, rfl, OwnLoops.nil _ _ _, Hres.out, H1.out.1⟩
  · go_enter Tryd.func9, Tryd.ntmps9
    go_wp2_with (rw [← HW1.out])
    refine (rsplit_any s vp regs words (.slice ac n cc) code _ Hlen.out (SliceIn.later Hc.out H1.out.1)).mono ?_
    rintro e w2 ⟨va, vb, rfl, hva, hvb, hb2⟩
    have hf2 := H1.out.2.1.later hb2 hlt1
    have hbw2 : Below w.heap.size w w2 := H1.out.1.trans (hb2.mono H1.out.1.size)
    have hl9 : (aheadE code).length ≤ 2048 ∧ (backsE code).length ≤ 2048 := by
      have h1 := List.length_filter_le (fun x => !isBack code x) (edgesL code)
      have h2 := List.length_filter_le (isBack code) (edgesL code)
      have h3 := edgesL_le code
      unfold aheadE backsE aheadIn backsIn
      omega
    have hrng : ∀ e, e ∈ edgesL code → 0 ≤ e.1 ∧ e.1 < n ∧ 0 ≤ e.2 ∧ e.2 < n := fun e he => by
      obtain ⟨m1, m2, m3, m4, _⟩ := edgesL_mem he
      rw [Hn.out]
      exact ⟨m1, m2, m3, m4⟩
    have H2 := Lib.hid (And.intro hva (And.intro hvb (And.intro hf2 hbw2)))
    have Hrng := Lib.hid hrng
    have Hl9 := Lib.hid hl9
    have hn24 : n ≤ 1024 := by omega
    obtain ⟨f0, f1, f2, f3, f4⟩ := hf2
    clear hva hvb hbw2 hb2 hrng hl9 hbig hlt1
    go_wp2_with fail
    refine (rlists_any n va (aheadE code) false _ (by omega) (Nat.le_trans Hl9.out.1 (by decide)) (SliceIn.of_owns H2.out.1) (fun x hx => Hrng.out x (ahead_sub hx))).mono ?_
    rintro e w3 ⟨F2, vs2, rfl, hF2, -, hb3⟩
    rw [if_neg (by simp)] at hF2
    have hLL : LLIn w3 F2 n (outI (aheadE code)) := LLIn.of hF2
    have hlt2 : w.heap.size < w2.heap.size := block_lt_of_cell f4
    have hf3 := H2.out.2.2.1.later hb3 hlt2
    have H3 := Lib.hid (And.intro hLL (And.intro hf3 hb3))
    have Hran : Hid (∀ x y, y ∈ outI (aheadE code) x → 0 ≤ y ∧ y < (n : Int)) := fun x y hy => by
      have := Hrng.out _ (ahead_sub (outI_mem.1 hy))
      exact ⟨this.2.2.1, this.2.2.2⟩
    have Hol : Hid (∀ x, (outI (aheadE code) x).length ≤ 2048) := fun x => Nat.le_trans (outI_len _ _) Hl9.out.1
    have hlt3 : w.heap.size < w3.heap.size := Nat.lt_of_lt_of_le hlt2 hb3.size
    clear hF2 hLL hf3 hb3 f0 f1 f2 f3 f4
    go_wp2_with fail
    go_loopg [8, 9] n (fun g iv _ wx => ∃ v : Nat, g = n - v ∧ iv = .int .i64 (v : Int) ∧ v ≤ n ∧ (∀ u : Nat, u < v → ¬ Way (aheadE code) u u) ∧ Below w3.heap.size w3 wx)
    case atStart => exact ⟨0, rfl, rfl, Nat.zero_le _, fun u hu => by omega, Below.refl _ _⟩
    case round =>
      obtain ⟨v, hg, rfl, hv, hno, hb⟩ := hrel
      have Hg := Lib.hid hg
      have HV := Lib.hid (And.intro hno hb)
      have f4 := (H3.out.2.1.later hb hlt3).c4
      clear hg hno hb
      by_cases hvn : v < n
      · as_aux_lemma =>
        go_wp2_with fail
        refine (rround_any n F2 (outI (aheadE code)) v _ hn24 hvn (H3.out.1.later HV.out.2) Hran.out Hol.out).mono ?_
        rintro e w4 ⟨rfl, hb4⟩
        by_cases hw : Way (aheadE code) v v
        · rw [decide_eq_true (cl_way.2 hw)]
          have Hres : Hid (FindIs code [] 70 (v : Int)) := .inr (.inl ⟨by rw [← Hn.out]; exact hn24, .inl ⟨rfl, by omega, by rw [← Hn.out]; omega, hw, fun u hu => by
            obtain ⟨z, hz, _⟩ := hu.back
            have h1 := Hrng.out _ (ahead_sub hz)
            refine Classical.byContradiction fun h => HV.out.1 u.toNat (by omega) ?_
            rw [show ((u.toNat : Nat) : Int) = u by omega]
            exact hu⟩, rfl, rfl⟩)
          have Hbf : Hid (Below w.heap.size w w4) := H2.out.2.2.2.trans ((H3.out.2.2.trans ((HV.out.2.trans (hb4.mono HV.out.2.size)).mono H3.out.2.2.size)).mono (by omega))
          clear hw hb4 f4
          go_wp2_with fail
          go_ret3
          exact ⟨_, [], 70, v, rfl, OwnLoops.nil _ _ _, Hres.out, Hbf.out⟩
        · rw [decide_eq_false (fun h => hw (cl_way.1 h))]
          have Hw := Lib.hid hw
          have Hb4 := Lib.hid hb4
          clear hw hb4 f4
          go_wp2_with fail
          go_roundg (n - (v + 1))
          case measure => have := Hg.out; omega
          case rel => exact ⟨v + 1, rfl, by go_num, hvn, fun u hu => by
            by_cases e : u = v
            · subst e; exact Hw.out
            · exact HV.out.1 u (by omega), HV.out.2.trans (Hb4.out.mono HV.out.2.size)⟩
      · as_aux_lemma =>
        obtain rfl : n = v := by omega
        have Hno : Hid (∀ x, ¬ Way (aheadE code) x x) := fun x hx => by
          obtain ⟨z, hz, _⟩ := hx.back
          have h1 := Hrng.out _ (ahead_sub hz)
          refine HV.out.1 x.toNat (by omega) ?_
          rw [show ((x.toNat : Nat) : Int) = x by omega]
          exact hx
        have hbwr : Below w.heap.size w wr := H2.out.2.2.2.trans ((H3.out.2.2.trans (HV.out.2.mono H3.out.2.2.size)).mono (by omega))
        have hea : EdgesIn wr va (aheadE code) := SliceIn.later (SliceIn.of_owns H2.out.1) (H3.out.2.2.trans (HV.out.2.mono H3.out.2.2.size))
        have heb : EdgesIn wr vb (backsE code) := SliceIn.later (SliceIn.of_owns H2.out.2.1) (H3.out.2.2.trans (HV.out.2.mono H3.out.2.2.size))
        have hfr := H3.out.2.1.later HV.out.2 hlt3
        have hltr : w.heap.size < wr.heap.size := block_lt_of_cell f4
        have HR := Lib.hid (And.intro hbwr (And.intro hea (And.intro heb hfr)))
        clear hbwr hea heb hfr Hg hvn hv HV
        go_upto_region 11 with (fail)
        go_cut [10] (fun v wc => ∃ F3 vs3, v = .slice (some ⟨F3, 0, none⟩) n n ∧ FromIn wc (F3 + 1) F3 n vs3 (fun x => toI (aheadE code ++ backsE code) (x : Nat)) ∧ Below wr.heap.size wr wc)
        case first =>
          obtain ⟨B0, hBe⟩ : ∃ B0, B0 = wr.heap.size := ⟨_, rfl⟩
          refine wp_region_held (S := Below B0 wr.drew) rfl ?_
          change wpAnyH _ _ _ _ (Below B0 wr.drew) _ _ _ wr.drew
          obtain ⟨W0, hW0⟩ : ∃ W0, W0 = wr.drew := ⟨_, rfl⟩
          rw [← hW0]
          have hb0' : Below wr.heap.size wr W0 := by rw [hW0]; exact (Below.refl _ _).drew
          have hs0' : W0.heap.size = wr.heap.size := by rw [hW0]; rfl
          have hB0 : B0 ≤ W0.heap.size := by omega
          have hB0' : W0.heap.size ≤ B0 := by omega
          have hfc : ∀ W, Below B0 W0 W → W.cell? ⟨w.heap.size, 4, none⟩ = some (.slice ac n cc) := fun W hb => (hb.cell (p := ⟨w.heap.size, 4, none⟩) (by show w.heap.size < B0; omega)).trans ((hb0'.cell (p := ⟨w.heap.size, 4, none⟩) hltr).trans f4)
          have Hfc := Lib.hid hfc
          have HW0 := Lib.hid (And.intro hb0' hs0')
          have Hea : Hid (EdgesIn W0 va (aheadE code)) := SliceIn.later HR.out.2.1 hb0'
          have Heb : Hid (EdgesIn W0 vb (backsE code)) := SliceIn.later HR.out.2.2.1 hb0'
          have Hb : Hid (Below B0 W0 W0) := Below.refl _ _
          clear hb0' hs0' hW0 hBe hfc f4
          refine wpAnyH_take (i := 0) rfl (by kernel_rfl) (by kernel_rfl) (by kernel_rfl) (fun _ _ _ h => h) (Or.inl ⟨by rfl, fun w hw => by (go_simp; try rfl)⟩) Hb.out ?_
          refine wpAnyH_take (i := 1) rfl (by kernel_rfl) (by kernel_rfl) (by kernel_rfl) (fun _ _ _ h => h) (Or.inl ⟨by rfl, fun w hw => by (have c0 := Hfc.out w hw; go_simp; try rfl)⟩) Hb.out ?_
          refine wpAnyH_take (i := 2) rfl (by kernel_rfl) (by kernel_rfl) (by kernel_rfl) (fun _ _ _ h => h) (Or.inl ⟨by rfl, fun w hw => by (go_simp; try rfl)⟩) Hb.out ?_
          refine wpAnyH_take (i := 4) rfl (by kernel_rfl) (by kernel_rfl) (by kernel_rfl) (fun _ _ _ h => h) (Or.inl ⟨by rfl, fun w hw => by (go_simp; try rfl)⟩) Hb.out ?_
          refine wpAnyH_take (i := 6) rfl (by kernel_rfl) (by kernel_rfl) (by kernel_rfl) (fun _ _ _ h => h) (Or.inl ⟨by rfl, fun w hw => by (go_simp; try rfl)⟩) Hb.out ?_
          refine wpAnyH_ready (rs := [3]) (by kernel_rfl) (by simp) ?_
          refine AllReadyH.cons rfl (fun K hK => ?_) AllReadyH.nil
          go_simp
          refine hK.out _ _ (Hb.out.alloc (Nat.le_trans hB0 Hb.out.size) _) (fun _ => ?_)
          clear hK K
          obtain ⟨WA, hWA⟩ : ∃ WA, WA = W0.alloc (.cells #[] 49) := ⟨_, rfl⟩
          have hemp : OwnEdges WA W0.heap.size (.slice (some ⟨W0.heap.size, 0, none⟩) 0 0) [] := by rw [hWA]; exact owns_empty W0 _ _ (Nat.le_refl _)
          have hbA : Below W0.heap.size W0 WA := by rw [hWA]; exact (Below.refl _ _).alloc (Nat.le_refl _) _
          rw [← hWA]
          have Hemp := Lib.hid hemp
          have Heb0 := Heb
          have HeaA : Hid (EdgesIn WA va (aheadE code)) := SliceIn.later Hea.out hbA
          have HebA : Hid (EdgesIn WA vb (backsE code)) := SliceIn.later Heb.out hbA
          have HlA : Hid (([] : List Edge).length + (aheadE code).length ≤ 1000000000 ∧ W0.heap.size ≤ WA.heap.size) := ⟨by have := Hl9.out.1; simp; omega, hbA.size⟩
          have HbA := Lib.hid hbA
          clear hemp hbA hWA Hea Heb
          refine wpAnyH_ready (rs := [5]) (by kernel_rfl) (by simp) ?_
          refine AllReadyH.cons rfl (fun K hK => ?_) AllReadyH.nil
          refine append_edges_wp _ _ rfl W0.heap.size _ [] rfl Hemp.out va _ rfl HeaA.out HlA.out.1 HlA.out.2 ?_
          intro v5 w5 ho5 hb5
          rw [List.nil_append] at ho5
          have h5 : Below W0.heap.size W0 w5 := hb5 _ _ HbA.out (Nat.le_refl _)
          have h5A : Below W0.heap.size WA w5 := hb5 _ _ (Below.refl _ _) (Nat.le_refl _)
          refine hK.out _ _ (h5.mono hB0) (fun _ => ?_)
          clear hK K
          have HebB : Hid (EdgesIn w5 vb (backsE code)) := by
            obtain ⟨h1, a', cap, e, h2, h3, h4, hh⟩ := Heb0.out
            refine ⟨h1, a', cap, e, h2, h3, h4, fun hp => ?_⟩
            obtain ⟨b, off, e1, hlt, hc⟩ := hh hp
            exact ⟨b, off, e1, Nat.lt_of_lt_of_le hlt h5.size, fun j u hu => (h5.cell (p := ⟨b, off + j, none⟩) hlt).trans (hc j u hu)⟩
          have H5 := Lib.hid (And.intro ho5 h5)
          have Hl5 : Hid ((aheadE code).length + (backsE code).length ≤ 1000000000 ∧ W0.heap.size ≤ w5.heap.size) := ⟨by have := Hl9.out; omega, h5.size⟩
          clear ho5 hb5 h5 h5A
          refine wpAnyH_ready (rs := [7]) (by kernel_rfl) (by simp) ?_
          refine AllReadyH.cons rfl (fun K hK => ?_) AllReadyH.nil
          refine append_edges_wp _ _ rfl W0.heap.size _ (aheadE code) rfl H5.out.1 vb _ rfl HebB.out Hl5.out.1 Hl5.out.2 ?_
          intro v7 w7 ho7 hb7
          have h7 : Below W0.heap.size W0 w7 := hb7 _ _ H5.out.2 (Nat.le_refl _)
          refine hK.out _ _ (h7.mono hB0) (fun _ => ?_)
          clear hK K
          have H7 := Lib.hid (And.intro ho7 h7)
          clear ho7 hb7 h7
          refine wpAnyH_ready (rs := [8]) (by kernel_rfl) (by simp) ?_
          refine AllReadyH.cons rfl (fun K hK => ?_) AllReadyH.nil
          go_simp
          refine (rlists_any n v7 (aheadE code ++ backsE code) true _ (by omega) (by have := Hl9.out; rw [List.length_append]; omega) (SliceIn.of_owns H7.out.1) (fun x hx => by
            rcases List.mem_append.1 hx with hx | hx
            · exact Hrng.out x (ahead_sub hx)
            · exact Hrng.out x (backs_sub hx))).mono ?_
          rintro e w8 ⟨F3, vs3, rfl, hF3, -, hb8⟩
          rw [if_pos rfl] at hF3
          try dsimp only
          have h8 : Below W0.heap.size W0 w8 := H7.out.2.trans (hb8.mono H7.out.2.size)
          have Hb : Hid (Below B0 W0 w8) := h8.mono hB0
          refine hK.out _ _ Hb.out (fun _ => ?_)
          clear hK K
          have HF := Lib.hid (And.intro hF3 (HW0.out.1.trans (h8.mono (by rw [HW0.out.2]; exact Nat.le_refl _))))
          clear hF3 hb8 h8
          refine wpAnyH_take (i := 9) rfl (by kernel_rfl) (by kernel_rfl) (by kernel_rfl) (fun _ _ _ h => h) (Or.inl ⟨by rfl, fun w hw => by (go_simp; try rfl)⟩) Hb.out ?_
          refine wpAnyH_done (by kernel_rfl) ?_ _
          (go_wp2_with fail; go_meet; case rel => exact ⟨F3, vs3, rfl, HF.out.1, HF.out.2⟩)
        case rest =>
          obtain ⟨F3, vs3, rfl, hF3, hbc⟩ := hcut
          have hltc : w.heap.size < wc.heap.size := Nat.lt_of_lt_of_le hltr hbc.size
          have hbwc : Below w.heap.size w wc := HR.out.1.trans (hbc.mono (by omega))
          have hfc := HR.out.2.2.2.later hbc hltr
          have hebc : EdgesIn wc vb (backsE code) := SliceIn.later HR.out.2.2.1 hbc
          have hLL3 : LLIn wc F3 n (toI (aheadE code ++ backsE code)) := LLIn.of hF3
          have HC := Lib.hid (And.intro hbwc (And.intro hfc (And.intro hebc hLL3)))
          obtain ⟨f0, f1, f2, f3, f4⟩ := hfc
          clear hF3 hbc hbwc hebc hLL3
          go_wp2_with fail
          refine (rlists_any n vb (backsE code) true _ (by omega) (Nat.le_trans Hl9.out.2 (by decide)) HC.out.2.2.1 (fun x hx => Hrng.out x (backs_sub hx))).mono ?_
          rintro e wT ⟨F4, vs4, rfl, hF4, hlo4, hbT⟩
          rw [if_pos rfl] at hF4
          have hltT : w.heap.size < wT.heap.size := Nat.lt_of_lt_of_le hltc hbT.size
          have hfT := HC.out.2.1.later hbT hltc
          have HT := Lib.hid (And.intro (HC.out.1.trans (hbT.mono (by omega))) (And.intro hfT (And.intro (HC.out.2.2.2.later hbT) hF4)))
          have hlo4' : w.heap.size ≤ F4 := by omega
          have HL0 : Hid (FL w wT (wT.alloc (.cells #[] 40)) (fun y => vs4.getD y.toNat nilV) code 0 (.slice (some ⟨wT.heap.size, 0, none⟩) 0 0) []) := by
            refine ⟨⟨owns_empty wT _ _ (Nat.le_refl _), fun x hx => absurd hx (by simp), by simp [blocksOf, Value.ownBlock]⟩, by simp, fun x hx => absurd hx (by simp), fun x hx => absurd hx (by simp), fun x hx => absurd hx (by simp), fun j h hj => by omega, (Below.refl _ _).alloc (Nat.le_refl _) _⟩
          clear hfT hF4 hbT f0 f1 f2 f3 f4 hlo4
          have Hlo4 := Lib.hid hlo4'
          clear hlo4'
          go_wp2_with fail
          go_loopg [12, 13, 14, 15, 16, 17, 18] n (fun g av iv _ _ _ _ _ wx => ∃ (h : Nat) (Ls : List LP), g = n - h ∧ iv = .int .i64 (h : Int) ∧ h ≤ n ∧ FL w wT wx (fun y => vs4.getD y.toNat nilV) code (hnum code h) av Ls)
          case atStart => exact ⟨0, [], rfl, rfl, Nat.zero_le _, HL0.out⟩
          case round =>
            obtain ⟨h, Ls, hg, rfl, hh, hL⟩ := hrel
            obtain ⟨wo, rfl⟩ : ∃ W, W = wr := ⟨_, rfl⟩
            have Hg := Lib.hid hg
            have HL := Lib.hid hL
            have f4 := (HT.out.2.1.later hL.below hltT).c4
            clear hg hL HL0
            by_cases hhn : h < n
            · as_aux_lemma =>
              have hFr := HT.out.2.2.2.later HL.out.below
              have hcF := hFr.cell hhn
              have hev := hFr.each h hhn
              obtain ⟨ah, ch, hvh⟩ := ints_form hev
              obtain ⟨nb, hnb⟩ : ∃ nb, nb = (toI (backsE code) (h : Int)).length := ⟨_, rfl⟩
              rw [hvh] at hcF hev
              rw [← hnb] at hcF hvh hev
              have hnb9 : nb ≤ 2048 := by rw [hnb]; exact toI_lenB code _
              have Hev : Hid (IntsIn wo (.slice ah nb ch) (toI (backsE code) (h : Int))) := SliceIn.of_owns hev
              have Hevo := Lib.hid hev
              have Hvh := Lib.hid hvh
              have Hnb := Lib.hid hnb
              clear hFr hev hvh hnb
              by_cases hz : nb = 0
              · have hnil : toI (backsE code) (h : Int) = [] := List.eq_nil_of_length_eq_zero (by rw [← Hnb.out]; exact hz)
                have Hnil := Lib.hid hnil
                subst hz
                clear hnil
                go_wp2_with fail
                go_roundg (n - (h + 1))
                case measure => have := Hg.out; omega
                case rel => exact ⟨h + 1, Ls, rfl, by go_num, hhn, by rw [hnum_no Hnil.out]; exact HL.out⟩
              · have hnn : toI (backsE code) (h : Int) ≠ [] := fun e => hz (by rw [Hnb.out, e]; rfl)
                have g1 : ((nb : Int) == 0) = false := by simp; omega
                have Hhd : Hid ((headsL code)[hnum code h]? = some (h : Int)) := headsL_at (by rw [← Hn.out]; exact hhn) hnn
                have Hnn := Lib.hid hnn
                have hltr' : w.heap.size < wo.heap.size := block_lt_of_cell f4
                have hFF : F4 < wo.heap.size := block_lt_of_cell hcF
                obtain ⟨cB, hcB⟩ : ∃ cB, cB = wo.heap.size := ⟨_, rfl⟩
                obtain ⟨WB, hWB⟩ : ∃ WB, WB = wo.alloc (.cells #[.int .i64 (h : Int), .int .i64 (-1), .slice none 0 0, .slice ah nb ch] 40) := ⟨_, rfl⟩
                have hbB : Below wo.heap.size wo WB := by rw [hWB]; exact (Below.refl _ _).alloc (Nat.le_refl _) _
                have b0 : WB.cell? ⟨cB, 0, none⟩ = some (.int .i64 (h : Int)) := by rw [hWB, World.cell?_alloc_at _ _ _ _ hcB]; rfl
                have b1 : WB.cell? ⟨cB, 1, none⟩ = some (.int .i64 (-1)) := by rw [hWB, World.cell?_alloc_at _ _ _ _ hcB]; rfl
                have b2 : WB.cell? ⟨cB, 2, none⟩ = some (.slice none 0 0) := by rw [hWB, World.cell?_alloc_at _ _ _ _ hcB]; rfl
                have b3 : WB.cell? ⟨cB, 3, none⟩ = some (.slice ah nb ch) := by rw [hWB, World.cell?_alloc_at _ _ _ _ hcB]; rfl
                have bz : ∀ j, WB.frozen? ⟨cB, j, none⟩ = false := fun j => by rw [hWB, World.frozen?_alloc_at _ _ _ _ hcB]
                have hfB := hbB.cell (p := ⟨w.heap.size, 4, none⟩) hltr' |>.trans f4
                have hFB := hbB.cell (p := ⟨F4, h, none⟩) hFF |>.trans hcF
                have HWB := Lib.hid hWB
                have HcB := Lib.hid hcB
                have HB := Lib.hid (And.intro hbB (And.intro b0 (And.intro b1 (And.intro b2 (And.intro b3 bz)))))
                clear hz hnn hWB hcB hbB b0 b1 b2 b3 bz
                go_upto_region 19 with (fail)
                rw [← HWB.out, ← HcB.out]
                clear f4 hcF
                go_still_tail 9, (by kernel_rfl)
                change wpList _ _ _ _ _ WB.drew
                obtain ⟨WD, hWD⟩ : ∃ WD, WD = WB.drew := ⟨_, rfl⟩
                have hbD : Below wo.heap.size wo WD := by rw [hWD]; exact HB.out.1.drew
                have hbD2 : Below WB.heap.size WB WD := by rw [hWD]; exact (Below.refl _ _).drew
                rw [← hWD]
                have HD := Lib.hid (And.intro hbD hbD2)
                clear hWD hbD hbD2 hfB hFB
                go_wp2_with fail
                refine (rmembers_any n F3 (toI (aheadE code ++ backsE code)) h (.slice ah nb ch) (toI (backsE code) (h : Int)) _ hn24 hhn (HT.out.2.2.1.later (HL.out.below.trans (HD.out.1.mono HL.out.below.size))) (fun x y hy => by
                  have h1 := Hrng.out _ (toI_mem.1 (from_mem.1 hy))
                  exact ⟨h1.1, h1.2.1⟩) (fun x => by
                  have h1 := toI_len (aheadE code ++ backsE code) x
                  have h2 := split_len code
                  have h3 := edgesL_le code
                  rw [List.length_append] at h1
                  omega) (SliceIn.later Hev.out HD.out.1) (fun y hy => by
                  have h1 := Hrng.out _ (backs_sub (toI_mem.1 hy))
                  exact ⟨h1.1, h1.2.1⟩) (by rw [← Hnb.out]; exact hnb9)).mono ?_
                rintro e w10 ⟨vm, rfl, hvm, hb10⟩
                obtain ⟨bl, hbl⟩ : ∃ bl, bl = memF n h (toI (backsE code) (h : Int)) (toI (aheadE code ++ backsE code)) := ⟨_, rfl⟩
                rw [← hbl] at hvm
                have hbln : bl.length = n := by rw [hbl]; unfold memF; simp
                obtain ⟨gb, cbm, rfl, hgb, hgb2⟩ : ∃ g c, vm = .slice (some ⟨g, 0, none⟩) n c ∧ WD.heap.size ≤ g ∧ g < w10.heap.size := by
                  rcases hvm.form with ⟨_, h2⟩ | ⟨g, c, h, h3, h4, _⟩
                  · rw [h2] at hbln; simp at hbln; omega
                  · exact ⟨g, c, by rw [h, hbln], h3, h4⟩
                have hcBw : cB < WB.heap.size := block_lt_of_cell HB.out.2.1
                have hcBD : cB < WD.heap.size := Nat.lt_of_lt_of_le hcBw HD.out.2.size
                have hbBB : Below WB.heap.size WB w10 := HD.out.2.trans (hb10.mono HD.out.2.size)
                have hM0 : MB wo w10 cB w10.heap.size (h : Int) (.slice ah nb ch) gb n cbm bl (.slice none 0 0) (memTo code (h : Int) 0) := by
                  refine ⟨(hbBB.cell (p := ⟨cB, 0, none⟩) hcBw).trans HB.out.2.1, (hbBB.cell (p := ⟨cB, 1, none⟩) hcBw).trans HB.out.2.2.1, (hbBB.cell (p := ⟨cB, 2, none⟩) hcBw).trans HB.out.2.2.2.1, (hbBB.cell (p := ⟨cB, 3, none⟩) hcBw).trans HB.out.2.2.2.2.1, (hbBB.frozen (p := ⟨cB, 2, none⟩) hcBw).trans (HB.out.2.2.2.2.2 2), ownsRow_mono hvm (Nat.zero_le _), World.ownsRow_nil _ _ _ _, ?_, Nat.le_refl _⟩
                  rw [HcB.out]
                  exact HD.out.1.trans (hb10.mono HD.out.1.size)
                obtain ⟨M0, hM0e⟩ : ∃ M0, M0 = w10.heap.size := ⟨_, rfl⟩
                rw [← hM0e] at hM0 hgb2
                have hcM : cB < M0 := by have := hb10.size; omega
                have hgne : gb ≠ cB := by omega
                have HM0 := Lib.hid hM0
                have Hbl := Lib.hid (And.intro hbl hbln)
                have HMe := Lib.hid hM0e
                clear hvm hbl hbln hM0 hM0e hbBB hb10 hcBw hcBD hgb Hev
                go_wp2_with fail
                go_loopg [16] n (fun g iv wx => ∃ (v : Nat) (mv : Value), g = n - v ∧ iv = .int .i64 (v : Int) ∧ v ≤ n ∧ MB wo wx cB M0 (h : Int) (.slice ah nb ch) gb n cbm bl mv (memTo code (h : Int) v))
                case atStart => exact ⟨0, _, rfl, rfl, Nat.zero_le _, HM0.out⟩
                case round =>
                  obtain ⟨v, mv, hg, rfl, hv, hM⟩ := hrel
                  have Hg2 := Lib.hid hg
                  have HM := Lib.hid hM
                  clear hg hM HM0
                  by_cases hvn : v < n
                  · as_aux_lemma =>
                    have hcb := OwnBools.cell HM.out.bools (k := v) (by rw [Hbl.out.2]; exact hvn)
                    rw [Hbl.out.1, memF_get hvn] at hcb
                    have m2 := HM.out.c2
                    have mz := HM.out.z
                    by_cases hp : MemP code (h : Int) (v : Int)
                    · rw [decide_eq_true hp] at hcb
                      have Hp := Lib.hid hp
                      have hlim : Hid ((memTo code (h : Int) v).length ≤ 1000000000000 ∧ M0 ≤ _) := ⟨Nat.le_trans (memTo_len _ _ _) (by omega), HM.out.le⟩
                      have hcs := block_lt_of_cell m2
                      clear hp
                      go_wp2_with (at_builtin; refine append_int rfl _ _ rfl M0 _ _ rfl HM.out.mem _ rfl hlim.out.1 hlim.out.2 ?_)
                      intro v' w' ho hgr hfr hbb
                      have hb' : Below M0 _ w' := hbb _ _ (Below.refl _ _) (Nat.le_refl _)
                      obtain ⟨a', c', hv'⟩ := ints_form ho
                      rw [hv'] at ho ⊢
                      have y2 := (hb'.cell (p := ⟨cB, 2, none⟩) hcM).trans m2
                      have yz := (hb'.frozen (p := ⟨cB, 2, none⟩) hcM).trans mz
                      have hN := HM.out.push hcM hgb2 hgne ho hb'
                      simp only [List.length_append, List.length_singleton] at hN
                      have HN := Lib.hid hN
                      clear hN
                      have hcs' : cB < w'.heap.size := Nat.lt_of_lt_of_le hcs hb'.size
                      clear ho hgr hfr hbb hb' m2 mz hcb hcs hv'
                      go_wp2_with fail
                      go_roundg (n - (v + 1))
                      case measure => have := Hg2.out; omega
                      case rel => exact ⟨v + 1, _, rfl, by go_num, hvn, by rw [memTo_yes Hp.out]; exact HN.out⟩
                    · rw [decide_eq_false hp] at hcb
                      have Hp := Lib.hid hp
                      clear hp m2 mz
                      go_wp2_with fail
                      go_roundg (n - (v + 1))
                      case measure => have := Hg2.out; omega
                      case rel => exact ⟨v + 1, mv, rfl, by go_num, hvn, by rw [memTo_no Hp.out]; exact HM.out⟩
                  · as_aux_lemma =>
                    obtain rfl : n = v := by omega
                    have hmem := HM.out.mem
                    rw [Hn.out, memTo_all] at hmem
                    obtain ⟨am, cm, hmv⟩ := ints_form hmem
                    obtain ⟨lm, hlm⟩ : ∃ lm, lm = (memL code (h : Int)).length := ⟨_, rfl⟩
                    rw [← hlm] at hmv
                    obtain ⟨d0, d1, d2, d3, -, -, -, -, -⟩ := HM.out
                    rw [hmv] at d2 hmem
                    have hbo : Below wo.heap.size wo wr := by rw [← HcB.out]; exact HM.out.below
                    have hfr := HT.out.2.1.later (HL.out.below.trans (hbo.mono HL.out.below.size)) hltT
                    obtain ⟨f0, f1, f2, f3, f4⟩ := hfr
                    have Hcd : Hid (CodeIn wr (.slice ac n cc) code) := SliceIn.later Hc.out (HT.out.1.trans ((HL.out.below.trans (hbo.mono HL.out.below.size)).mono (by omega)))
                    have Hbk : Hid (IntsIn wr (.slice ah nb ch) (toI (backsE code) (h : Int))) := SliceIn.of_owns (ownsRow_below Hevo.out hbo (Nat.le_refl _))
                    have Hme : Hid (IntsIn wr (.slice am lm cm) (memL code (h : Int))) := SliceIn.of_owns hmem
                    have Hmo := Lib.hid hmem
                    have Hbo := Lib.hid hbo
                    have Hmv := Lib.hid (And.intro hmv hlm)
                    have hsM := HM.out.le
                    have hin := headsL_in (List.mem_of_getElem? Hhd.out)
                    have Hin := Lib.hid hin
                    clear hmem hmv hlm hbo hin hvn hv Hg2
                    go_wp2_with fail
                    refine (rcounts_any s vp regs words (.slice ac n cc) code (h : Int) (-1) (.slice am lm cm) (.slice ah nb ch) (memL code (h : Int)) (toI (backsE code) (h : Int)) _ Hcd.out Hme.out Hbk.out (by rw [← Hn.out]; exact hn24) ⟨Hin.out.lo, Hin.out.hi⟩ (fun u hu => memL_range hu) (fun u hu => backs_range hu) (by have := memL_len code (h : Int); have := Hn.out; omega) (by rw [← Hnb.out]; omega)).mono ?_
                    rintro e w11 ⟨rfl, hb11⟩
                    obtain ⟨⟨E, A⟩, hEA⟩ : ∃ EA, EA = countsOf code (h : Int) (memL code (h : Int)) (toI (backsE code) (h : Int)) := ⟨_, rfl⟩
                    rw [← hEA]
                    have HEA := Lib.hid hEA
                    have hcr : cB < wr.heap.size := block_lt_of_cell d0
                    have q0 := (hb11.cell (p := ⟨cB, 0, none⟩) hcr).trans d0
                    have q1 := (hb11.cell (p := ⟨cB, 1, none⟩) hcr).trans d1
                    have q2 := (hb11.cell (p := ⟨cB, 2, none⟩) hcr).trans d2
                    have q3 := (hb11.cell (p := ⟨cB, 3, none⟩) hcr).trans d3
                    have hcr11 : cB < w11.heap.size := Nat.lt_of_lt_of_le hcr hb11.size
                    have H11 := Lib.hid hb11
                    clear hEA hb11 d0 d1 d2 d3 f0 f1 f2 f3 f4 hcr
                    by_cases hE : E = 0
                    · subst hE
                      have hll : Ls.length ≤ 1000000 := by
                        have h1 := congrArg List.length HL.out.d
                        rw [List.length_map, List.length_map, List.length_take] at h1
                        have h2 := headsL_len code
                        have h3 := Hn.out
                        omega
                      have hrow11 : w11.ownsRow wT.heap.size 40 4 u12 Ls.length (loopVs Ls) := (HL.out.later (Hbo.out.trans (H11.out.mono Hbo.out.size))).own.row
                      have hs11 : wT.heap.size ≤ w11.heap.size := by have h1 := HL.out.below.size; have h2 := Hbo.out.size; have h3 := H11.out.size; omega
                      have Hrow := Lib.hid hrow11
                      clear hrow11
                      go_wp2_with (at_builtin; refine append_loop rfl _ _ rfl wT.heap.size _ Ls rfl Hrow.out (h : Int) (-1) am lm cm ah nb ch rfl hll hs11 ?_)
                      intro v18 w18 ho18 hg18 hf18 hb18
                      have hL18 : FL w wT w18 (fun y => vs4.getD y.toNat nilV) code (hnum code h + 1) v18 (Ls ++ [⟨(h : Int), -1, .slice am lm cm, .slice ah nb ch, memL code (h : Int), toI (backsE code) (h : Int)⟩]) := by
                        have hA : Below w11.heap.size w11 (w11.alloc (.cells #[.int .i64 (h : Int), .int .i64 (-1), .slice am lm cm, .slice ah nb ch] 40)) := (Below.refl _ _).alloc (Nat.le_refl _) _
                        have hrA : Below wr.heap.size wr (w11.alloc (.cells #[.int .i64 (h : Int), .int .i64 (-1), .slice am lm cm, .slice ah nb ch] 40)) := H11.out.trans (hA.mono H11.out.size)
                        have hoA : Below wo.heap.size wo (w11.alloc (.cells #[.int .i64 (h : Int), .int .i64 (-1), .slice am lm cm, .slice ah nb ch] 40)) := Hbo.out.trans (hrA.mono Hbo.out.size)
                        refine HL.out.snocR (fun y hy b hb => ?_) (fun y hy hne b hb hb2 => ?_) Hhd.out ?_ (ownsRow_mono (ownsRow_below Hmo.out hrA (Nat.le_refl _)) (by have := HcB.out; omega)) (ownsRow_mono (ownsRow_below Hevo.out hoA (Nat.le_refl _)) (by have := Hlo4.out; omega)) hoA (by omega) (by rw [← HEA.out]) ho18 hg18 hf18 ?_
                        · have hyr : 0 ≤ y ∧ y < n := by
                            rcases hy with rfl | hy
                            · omega
                            · have hi := headsL_in (List.mem_of_mem_take hy)
                              have := hi.lo; have := hi.hi; have := Hn.out; omega
                          exact (World.ownsRow.lt (HT.out.2.2.2.each y.toNat (by omega)) b hb).2
                        · have hi := headsL_in (List.mem_of_mem_take hy)
                          have hn' := Hn.out
                          have h1 := hi.lo; have h2 := hi.hi
                          exact HT.out.2.2.2.apart y.toNat ((h : Int)).toNat (by omega) (by omega) (by omega) b hb hb2
                        · exact Hvh.out.symm
                        · refine hb18 wT.heap.size wT ?_ (Nat.le_refl _)
                          have h1 : Below wo.heap.size wo w11 := Hbo.out.trans (H11.out.mono Hbo.out.size)
                          exact HL.out.below.trans (h1.mono HL.out.below.size)
                      have HL18 := Lib.hid hL18
                      clear ho18 hg18 hf18 hb18 hL18
                      go_wp2_with fail
                      go_roundg (n - (h + 1))
                      case measure => have := Hg.out; omega
                      case rel => exact ⟨h + 1, _, rfl, by go_num, hhn, by rw [hnum_yes Hnn.out]; exact HL18.out⟩
                    · have Hres : Hid (FindIs code [] E A) := .inr (.inr (.inl ⟨by rw [← Hn.out]; exact hn24, Hno.out, rfl, hnum code h, h, Hhd.out, HL.out.ok, HEA.out.symm, hE⟩))
                      have hq : (E != 0) = true := by simp [hE]
                      have Hbf : Hid (Below w.heap.size w w11) := HT.out.1.trans ((HL.out.below.trans ((Hbo.out.trans (H11.out.mono Hbo.out.size)).mono HL.out.below.size)).mono (by omega))
                      clear hE
                      go_wp2_with fail
                      go_ret3
                      exact ⟨_, [], E, A, rfl, OwnLoops.nil _ _ _, Hres.out, Hbf.out⟩
            · as_aux_lemma =>
              obtain rfl : n = h := by omega
              obtain ⟨nh, hnh⟩ : ∃ nh, nh = (headsL code).length := ⟨_, rfl⟩
              have hnh9 : nh ≤ 1024 := by have h1 := headsL_len code; have h2 := Hn.out; omega
              have hL := HL.out
              have hkn : hnum code n = nh := by rw [Hn.out, hnum_all, hnh]
              rw [hkn] at hL
              have hds : Ls.map LP.d = (headsL code).map (loopD code) := by
                rw [hL.d, List.take_of_length_le (by rw [← hnh]; exact Nat.le_refl _)]
              have hlen : Ls.length = nh := by
                have := congrArg List.length hds
                rw [List.length_map, List.length_map] at this
                rw [this, ← hnh]
              obtain ⟨ds, hdse⟩ : ∃ ds, ds = (headsL code).map (loopD code) := ⟨_, rfl⟩
              rw [← hdse] at hds
              have hdl : ds.length = nh := by rw [hdse, List.length_map, ← hnh]
              have hP0 : PL w wT wo ds u12 (outP ds nh 0) Ls := by
                refine ⟨hL.own, hds, ?_, hL.below⟩
                rw [outP, ← hlen]
                refine List.eq_replicate_iff.2 ⟨by rw [List.length_map], fun b hb => ?_⟩
                obtain ⟨x, hx, rfl⟩ := List.mem_map.1 hb
                exact hL.par x hx
              have hokA : ∀ h ∈ headsL code, (countsOf code h (memL code h) (toI (backsE code) h)).1 = 0 := fun h hh => by
                obtain ⟨j, hj, e⟩ := List.mem_iff_getElem.1 hh
                exact hL.ok j h (by rw [hnh]; exact hj) (by rw [List.getElem?_eq_getElem hj, e])
              have hform : ∃ aq cq, u12 = .slice aq nh cq ∧ (0 < nh → ∃ g, aq = some ⟨g, 0, none⟩ ∧ wT.heap.size ≤ g) := by
                rcases hL.own.row.2 with ⟨h, h2⟩ | ⟨g, cap, cur, h, h3, _⟩
                · exact ⟨none, 0, by rw [h, ← hlen, h2], fun h0 => by omega⟩
                · exact ⟨_, cap, by rw [h, hlen], fun _ => ⟨g, rfl, h3⟩⟩
              obtain ⟨aq, cq, rfl, haq⟩ := hform
              have HP0 := Lib.hid hP0
              have HA := Lib.hid (And.intro hokA (And.intro hdse (And.intro hdl hnh)))
              clear hL hds hlen hP0 hokA hdse hdl hkn hnh HL hh hhn
              go_wp2_with fail
              go_loopg [19, 20, 21] nh (fun g iv _ _ wx => ∃ (i : Nat) (L2 : List LP), g = nh - i ∧ i ≤ nh ∧ iv = .int .i64 (i : Int) ∧ PL w wT wx ds (.slice aq nh cq) (outP ds nh i) L2)
              case atStart => exact ⟨0, Ls, rfl, Nat.zero_le _, rfl, HP0.out⟩
              case round =>
                obtain ⟨i, L2, hg, hi, rfl, hP⟩ := hrel
                have Hg3 := Lib.hid hg
                have HP := Lib.hid hP
                clear hg hP
                by_cases hin' : i < nh
                · obtain ⟨g, rfl, hgw⟩ := haq (by omega)
                  go_wp2_with fail
                  go_loopg [20, 21] nh (fun gg kv _ wx => ∃ (k : Nat) (L3 : List LP), gg = nh - k ∧ k ≤ nh ∧ kv = .int .i64 (k : Int) ∧ PL w wT wx ds (.slice (some ⟨g, 0, none⟩) nh cq) (inP ds (outP ds nh i) i k) L3)
                  case atStart => exact ⟨0, L2, rfl, Nat.zero_le _, rfl, HP.out⟩
                  case round =>
                    obtain ⟨k, L3, hg, hk, rfl, hQ⟩ := hrel
                    have Hg4 := Lib.hid hg
                    clear hg
                    by_cases hkn : k < nh
                    · as_aux_lemma =>
                      obtain ⟨xi, hxi⟩ : ∃ x, L3[i]? = some x := ⟨_, List.getElem?_eq_getElem (by rw [hQ.len, HA.out.2.2.1]; exact hin')⟩
                      obtain ⟨xk, hxk⟩ : ∃ x, L3[k]? = some x := ⟨_, List.getElem?_eq_getElem (by rw [hQ.len, HA.out.2.2.1]; exact hkn)⟩
                      obtain ⟨hni, hpi⟩ := hQ.nth hxi
                      obtain ⟨hnk, -⟩ := hQ.nth hxk
                      have hpr : -1 ≤ xi.parent ∧ xi.parent < nh := by
                        refine (ParOK.out nh ds i).inn (ds := ds) (i := i) k hk xi.parent ?_
                        rw [← hQ.par]
                        exact List.mem_map_of_mem (List.mem_of_getElem? hxi)
                      obtain ⟨pn, xp, hxp, hpn, hpz⟩ : ∃ pn xp, L3[pn]? = some xp ∧ pn < nh ∧ (0 ≤ xi.parent → xi.parent = (pn : Int)) := by
                        by_cases hz : 0 ≤ xi.parent
                        · exact ⟨xi.parent.toNat, _, List.getElem?_eq_getElem (by rw [hQ.len, HA.out.2.2.1]; omega), by omega, fun _ => by omega⟩
                        · exact ⟨k, xk, hxk, hkn, fun h => absurd h hz⟩
                      obtain ⟨hnp, -⟩ := hQ.nth hxp
                      have hcond : condP ds (inP ds (outP ds nh i) i k) i k = (decide (i ≠ k) && xk.mem.contains xi.head && (decide (xi.parent < 0) || decide (xk.mem.length < (nthD ds xi.parent.toNat).2.1.length))) := by
                        unfold condP withinD
                        rw [hpi, hni, hnk]; rfl
                      have hcl := hQ.own.toIn
                      obtain ⟨ci0, ci1, -, -⟩ := hcl.at' hxi
                      obtain ⟨-, -, ck2, -⟩ := hcl.at' hxk
                      obtain ⟨-, -, cp2, -⟩ := hcl.at' hxp
                      have hmk := (hcl.each xk (List.mem_of_getElem? hxk)).1
                      obtain ⟨amk, cmk, hvk⟩ : ∃ a c, xk.vm = .slice a xk.mem.length c := by
                        obtain ⟨-, a, c, h, _⟩ := hmk
                        exact ⟨a, c, h⟩
                      obtain ⟨amp, cmp, hvp⟩ : ∃ a c, xp.vm = .slice a xp.mem.length c := by
                        obtain ⟨-, a, c, h, _⟩ := (hcl.each xp (List.mem_of_getElem? hxp)).1
                        exact ⟨a, c, h⟩
                      obtain ⟨nmk, hnmk⟩ : ∃ n, n = xk.mem.length := ⟨_, rfl⟩
                      obtain ⟨nmp, hnmp⟩ : ∃ n, n = xp.mem.length := ⟨_, rfl⟩
                      rw [← hnmk] at hvk
                      rw [← hnmp] at hvp
                      have hlp : (nthD ds xi.parent.toNat).2.1.length = nmp ∨ xi.parent < 0 := by
                        by_cases hz : 0 ≤ xi.parent
                        · left
                          rw [hpz hz, Int.toNat_natCast, hnp, hnmp]
                          rfl
                        · right; omega
                      obtain ⟨hdI, hhd⟩ : ∃ z, z = xi.head := ⟨_, rfl⟩
                      obtain ⟨p, hpe⟩ : ∃ z, z = xi.parent := ⟨_, rfl⟩
                      rw [hvk] at ck2 hmk
                      rw [hvp] at cp2
                      rw [← hhd] at ci0 hcond
                      rw [← hpe] at ci1 hcond hpr hpz hlp
                      rw [Nat.zero_add] at ci0 ci1 ck2 cp2
                      have hgs : g < wr.heap.size := (World.ownsRow.lt hQ.own.row g rfl).2
                      have hfz : wr.frozen? ⟨g, i * 4 + 1, none⟩ = false := by
                        have h1 := hQ.own.row
                        rw [hQ.len, HA.out.2.2.1] at h1
                        exact World.ownsRow.frozenAt h1 (i * 4 + 1)
                      have hlL : i < L3.length := by rw [hQ.len, HA.out.2.2.1]; exact hin'
                      obtain ⟨cnd, hcnd⟩ : ∃ b, b = condP ds (inP ds (outP ds nh i) i k) i k := ⟨_, rfl⟩
                      have hstep := stepP_cond ds (inP ds (outP ds nh i) i k) i k
                      rw [← hcnd] at hstep hcond
                      have HQ := Lib.hid (And.intro hQ (And.intro hlL (And.intro ci1 (And.intro hfz hstep))))
                      have Hmk := Lib.hid hmk
                      have Hcc := Lib.hid (And.intro ci1 (And.intro ck2 cp2))
                      obtain ⟨cont, hcont⟩ : ∃ b, b = xk.mem.contains hdI := ⟨_, rfl⟩
                      rw [← hcont] at hcond
                      have Hcont := Lib.hid hcont
                      have Hcond := Lib.hid (And.intro hcond (And.intro hlp (And.intro hpz hnmk)))
                      clear hQ hxi hxk hxp hni hpi hnk hnp hcl hvk hvp hhd hpe hfz hlL hnmk hnmp hcnd hstep hmk hcont hcond hlp ci1 cp2
                      by_cases hki : k = i
                      · have q1 : ((k : Int) != (i : Int)) = false := by simp [hki]
                        have Hcnd : Hid (cnd = false) := by show _ = _; rw [Hcond.out.1]; simp [hki]
                        clear hki ci0 ck2
                        go_wp2_with (go_quiet (fail))
                        go_roundg (nh - (k + 1))
                        case measure => have := Hg4.out; omega
                        case rel => exact ⟨k + 1, L3, rfl, hkn, by go_num, by (have h1 := HQ.out.2.2.2.2; rw [Hcnd.out, if_neg (by simp)] at h1; rw [inP, h1]; exact HQ.out.1.later (below_draws _ _))⟩
                      · have q1 : ((k : Int) != (i : Int)) = true := by simp; omega
                        have hdk : decide (i ≠ k) = true := by simp; omega
                        have Hdk := Lib.hid hdk
                        clear hki hdk
                        go_upto_region 35 with (fail)
                        go_quiet ((go_at_call 16; exact Calls.quiet_of_same (v := .bool cont) ((rhas_any (.slice amk nmk cmk) xk.mem hdI _ (SliceIn.later Hmk.out (below_draws _ _))).mono fun _ _ h => ⟨h.1.trans (by rw [Hcont.out]), h.2.symm⟩)))
                        generalize hwq : wr.drewN nq = wq
                        have hQw : PL w wT wq ds (.slice (some ⟨g, 0, none⟩) nh cq) (inP ds (outP ds nh i) i k) L3 := by rw [← hwq]; exact HQ.out.1.later (below_draws _ _)
                        have hcw : wq.cell? ⟨g, i * 4 + 1, none⟩ = some (.int .i64 p) ∧ wq.cell? ⟨g, k * 4 + 2, none⟩ = some (.slice amk nmk cmk) ∧ wq.cell? ⟨g, pn * 4 + 2, none⟩ = some (.slice amp nmp cmp) := by rw [← hwq]; exact Hcc.out
                        have hfw : wq.frozen? ⟨g, i * 4 + 1, none⟩ = false := by rw [← hwq]; exact HQ.out.2.2.2.1
                        have hgw2 : g < wq.heap.size := by rw [← hwq]; exact hgs
                        obtain ⟨y1, y2, y3⟩ := hcw
                        have HQw := Lib.hid (And.intro hQw (And.intro hgw2 (And.intro y1 hfw)))
                        clear hwq hQw ci0 ck2 hfw q1 hpz
                        cases cont
                        · have Hcnd : Hid (cnd = false) := by show _ = _; rw [Hcond.out.1]; simp
                          clear y1 y2 y3
                          go_wp2_with (go_quiet (fail))
                          go_roundg (nh - (k + 1))
                          case measure => have := Hg4.out; omega
                          case rel => exact ⟨k + 1, L3, rfl, hkn, by go_num, by (have h1 := HQ.out.2.2.2.2; rw [Hcnd.out, if_neg (by simp)] at h1; rw [inP, h1]; exact HQw.out.1.later (below_draws _ _))⟩
                        · by_cases hp : p < 0
                          · have Hcnd : Hid (cnd = true) := by show _ = _; rw [Hcond.out.1, Hdk.out]; simp [hp]
                            have q2 : decide (p < 0) = true := by simp [hp]
                            clear hp y2 y3
                            go_upto_region 36 with (fail)
                            go_quiet (fail)
                            have HF := Lib.hid (HQw.out.1.later (below_draws _ nq))
                            have HFp := Lib.hid (HF.out.put HQ.out.2.1 (k : Int) hgw)
                            have hcp : (World.drewN wq nq).cell? ⟨g, i * 4 + 1, none⟩ = some (.int .i64 p) := HQw.out.2.2.1
                            have hfz : (World.drewN wq nq).frozen? ⟨g, i * 4 + 1, none⟩ = false := HQw.out.2.2.2
                            go_wp2_with fail
                            go_roundg (nh - (k + 1))
                            case measure => have := Hg4.out; omega
                            case rel => exact ⟨k + 1, _, rfl, hkn, by go_num, by (have h1 := HQ.out.2.2.2.2; rw [Hcnd.out, if_pos rfl] at h1; rw [inP, h1]; exact HFp.out)⟩
                          · have q2 : decide (p < 0) = false := by simp; omega
                            have hpp : p = (pn : Int) := Hcond.out.2.2.1 (by omega)
                            have Hpp := Lib.hid hpp
                            have hcn : cnd = decide (nmk < nmp) := by
                              have h1 := Hcond.out.1
                              rw [Hdk.out, q2] at h1
                              rcases Hcond.out.2.1 with h2 | h2
                              · rw [h2, ← Hcond.out.2.2.2] at h1
                                simpa using h1
                              · omega
                            rw [hpp] at y1 q2
                            by_cases hlt : nmk < nmp
                            · have Hcnd : Hid (cnd = true) := by show _ = _; rw [hcn]; simp [hlt]
                              have q3 : decide (nmk < nmp) = true := by simp [hlt]
                              have q4 : decide ((nmk : Int) < (nmp : Int)) = true := by simp [hlt]
                              clear hp hpp hcn hlt
                              go_upto_region 36 with (fail)
                              go_quiet (fail)
                              have HF := Lib.hid (HQw.out.1.later (below_draws _ nq))
                              have HFp := Lib.hid (HF.out.put HQ.out.2.1 (k : Int) hgw)
                              have hcp : (World.drewN wq nq).cell? ⟨g, i * 4 + 1, none⟩ = some (.int .i64 (pn : Int)) := by rw [← Hpp.out]; exact HQw.out.2.2.1
                              have hfz : (World.drewN wq nq).frozen? ⟨g, i * 4 + 1, none⟩ = false := HQw.out.2.2.2
                              go_wp2_with fail
                              go_roundg (nh - (k + 1))
                              case measure => have := Hg4.out; omega
                              case rel => exact ⟨k + 1, _, rfl, hkn, by go_num, by (have h1 := HQ.out.2.2.2.2; rw [Hcnd.out, if_pos rfl] at h1; rw [inP, h1]; exact HFp.out)⟩
                            · have Hcnd : Hid (cnd = false) := by show _ = _; rw [hcn]; simp [hlt]
                              have q3 : decide (nmk < nmp) = false := by simp [hlt]
                              have q4 : decide ((nmk : Int) < (nmp : Int)) = false := by simp; omega
                              clear hp hpp hcn hlt
                              go_wp2_with (go_quiet (fail))
                              go_roundg (nh - (k + 1))
                              case measure => have := Hg4.out; omega
                              case rel => exact ⟨k + 1, L3, rfl, hkn, by go_num, by (have h1 := HQ.out.2.2.2.2; rw [Hcnd.out, if_neg (by simp)] at h1; rw [inP, h1]; exact HQw.out.1.later (below_draws _ _))⟩
                    · obtain rfl : nh = k := by omega
                      have HQ := Lib.hid hQ
                      clear hQ hkn
                      go_wp2_with fail
                      go_roundg (nh - (i + 1))
                      case measure => have := Hg3.out; omega
                      case rel => exact ⟨i + 1, L3, rfl, hin', by go_num, HQ.out⟩
                · obtain rfl : nh = i := by omega
                  have Hres : Hid (FindIs code L2 0 0) := by
                    refine .inr (.inr (.inr ⟨by rw [← Hn.out]; exact hn24, Hno.out, HA.out.1, rfl, rfl, ?_, ?_⟩))
                    · rw [HP.out.d, HA.out.2.1]
                    · rw [HP.out.par, HA.out.2.1, ← HA.out.2.2.2]
                  have hsT : w.heap.size ≤ wT.heap.size := HT.out.1.size
                  have Hbf : Hid (Below w.heap.size w wr) := HT.out.1.trans (HP.out.below.mono hsT)
                  clear hin'
                  go_wp2_with fail
                  go_ret3
                  exact ⟨_, L2, 0, 0, rfl, HP.out.own.mono (Nat.le_refl _) hsT, Hres.out, Hbf.out⟩
end Go.Proofs.YtapjdndcnenadaaDoor
