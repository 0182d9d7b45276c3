/- flow.Next and the reference's Next: both return, in new memory, the list nextL of the code and the number. -/
import Derived.Test.YtapjdndcnenadaaDoorKnown
namespace Go.Proofs.YtapjdndcnenadaaDoor
open Go.RowKit

/-- The two places where an instruction may lead, as the program puts them. -/
def cand (x : Ins) (k : Int) : List Int :=
  if x.op = 14 ∨ x.op = 18 then [x.n] else if x.op = 15 ∨ x.op = 16 ∨ x.op = 17 then [k + 1, x.n] else if x.op ≠ 0 ∧ knownB x.op = true then [k + 1] else []

def keeps (ls : List Int) (len : Nat) (i : Nat) : Bool := decide (0 ≤ ls.getD i 0 ∧ ls.getD i 0 < len ∧ (i = 0 ∨ ls.getD i 0 ≠ ls.getD 0 0))
def outTo (ls : List Int) (len : Nat) : Nat → List Int
  | 0 => []
  | i + 1 => outTo ls len i ++ if keeps ls len i = true then [ls.getD i 0] else []

theorem outTo_le (ls : List Int) (len i : Nat) : (outTo ls len i).length ≤ i := by
  induction i with
  | zero => exact Nat.le_refl _
  | succ i ih => unfold outTo; split <;> simp <;> omega

theorem cand_le (x : Ins) (k : Int) : (cand x k).length ≤ 2 := by
  unfold cand; repeat' split
  all_goals simp

theorem rel_cand {w W1 : World} {o o' : Obj} (hW : W1 = (w.alloc o).alloc o') (op a b1 c n k : Int) (wc : World) {v : Value}
    (h : (cand ⟨op, a, b1, c, n⟩ k = [] ∧ v = .slice none 0 0 ∧ wc = (w.alloc o).alloc o') ∨ (∃ r ls, cand ⟨op, a, b1, c, n⟩ k = ls ∧ ls.length = r ∧ v = .slice (some ⟨w.heap.size + 1 + 1, 0, none⟩) r r ∧ wc = ((w.alloc o).alloc o').alloc (.cells (intVs ls).toArray 2))) :
    wc.ownsRow (w.heap.size + 2) 2 1 v (cand ⟨op, a, b1, c, n⟩ k).length (intVs (cand ⟨op, a, b1, c, n⟩ k)) ∧ Below (w.heap.size + 2) W1 wc := by
  subst hW
  rcases h with ⟨h1, rfl, rfl⟩ | ⟨r, ls, h1, h2, rfl, rfl⟩
  · rw [h1]; exact ⟨World.ownsRow_nil _ _ _ _, Below.refl _ _⟩
  · have hr : ls.length ≤ 2 := by rw [← h1]; exact cand_le _ _
    rw [h1, h2]
    exact ⟨by have := owns_new ((w.alloc o).alloc o') (B := w.heap.size + 2) (e := 2) r (intVs ls) (by simp) (by simp [intVs, h2]) (by omega); simpa using this, (Below.refl _ _).alloc (by simp) _⟩

set_option maxHeartbeats 400000 in
theorem next_in (s : ByteArray) (vp : Value) (regs words : Int) (code : List Ins) (b off cap : Nat) (k : Nat) (x : Ins) (w : World) (hx : code[k]? = some x) (hk : k < code.length) (hlen : code.length * 40 ≤ 140737488351232)  (hb : b < w.heap.size)
  (hc : CodeIn w (.slice (some ⟨b, off, none⟩) code.length cap) code) :
    Calls Tryd.prog 44 #[.agg #[.string s, vp, .int .i64 regs, .int .i64 words, .slice (some ⟨b, off, none⟩) code.length cap], .int .i64 k] w fun e w' => 
      ∃ v, e = .returned v ∧ OwnInts w' w.heap.size v (outTo (cand x k) code.length (cand x k).length) ∧ Below w.heap.size w w' := by
  obtain ⟨h0, h1, h2, h3, h4⟩ := CodeIn.at hc rfl hx
  have Hx := Lib.hid hx
  have Hc := Lib.hid hc
  clear hx hc
  obtain ⟨len, hl⟩ : ∃ len, len = code.length := ⟨_, rfl⟩
  rw [← hl] at hk hlen ⊢
  have Hl := Lib.hid hl
  clear hl
  obtain ⟨op, a, b1, c, n⟩ := x
  simp only at h0 h1 h2 h3 h4
  obtain ⟨W1, hW1⟩ : ∃ W1, W1 = ((w.alloc (.cells #[.string s, vp, .int .i64 regs, .int .i64 words, .slice (some ⟨b, off, none⟩) len cap] 25)).alloc (.cells #[.int .i64 op, .int .i64 a, .int .i64 b1, .int .i64 c, .int .i64 n] 52)) := ⟨_, rfl⟩
  have HW1 := Lib.hid hW1
  clear hW1
  go_enter Tryd.func44, Tryd.ntmps44
  go_upto_block 0 with (fail)
  go_cut [6] (fun v wc => wc.ownsRow (w.heap.size + 2) 2 1 v (cand ⟨op, a, b1, c, n⟩ k).length (intVs (cand ⟨op, a, b1, c, n⟩ k)) ∧ Below (w.heap.size + 2) W1 wc)
  case first =>
    go_wp2_with (go_at_call 46; refine (known_any _ _).mono ?_; rintro e w' ⟨rfl, rfl⟩)
    all_goals go_meet
    all_goals case rel =>
      refine rel_cand HW1.out op a b1 c n k _ ?_
      go_light
      simp only [beq_iff_eq, beq_eq_false_iff_ne] at *
      first
        | (refine Or.inl ⟨?_, ?_, ?_⟩ <;> first | trivial | rfl | (simp [cand, *]; done))
        | (refine Or.inr ⟨1, [n], ?_, ?_, ?_, ?_⟩ <;> first | trivial | rfl | (simp [cand, *]; done))
        | (refine Or.inr ⟨2, [k + 1, n], ?_, ?_, ?_, ?_⟩ <;> first | trivial | rfl | (simp [cand, *]; done))
        | (refine Or.inr ⟨1, [k + 1], ?_, ?_, ?_, ?_⟩ <;> first | trivial | rfl | (simp [cand, *]; done))
  case rest =>
    obtain ⟨hol, hbl⟩ := hcut
    have hs := SliceIn.of_owns hol
    have HW := HW1.out
    have hsz : w.heap.size + 2 ≤ wc.heap.size := by have := hbl.size; rw [HW] at this; simpa using this
    have hbw : Below w.heap.size w wc := by
      refine Below.trans ?_ (hbl.mono (by omega))
      rw [HW]; exact ((Below.refl _ _).alloc (Nat.le_refl _) _).alloc (by simp) _
    have hcf : wc.cell? ⟨w.heap.size, 4, none⟩ = some (.slice (some ⟨b, off, none⟩) len cap) := by
      rw [hbl.cell (by simp), HW, World.cell?_alloc_past _ _ _ (by simp), World.cell?_alloc_at _ _ _ _ rfl]; rfl
    have hm2 := cand_le ⟨op, a, b1, c, n⟩ k
    clear hol hbl HW
    obtain ⟨_, la, lc, rfl, hl1, hl2, hl3, hl4⟩ := hs
    generalize hls : cand ⟨op, a, b1, c, n⟩ k = ls at *
    have Hls := Lib.hid hls
    clear hls
    obtain ⟨m, hm⟩ : ∃ m, m = ls.length := ⟨_, rfl⟩
    rw [← hm] at hl1 hl4 hm2 ⊢
    have Hm := Lib.hid hm
    have Hl4 := Lib.hid hl4
    have Hcf := Lib.hid hcf
    clear hm hl4 hl2 hl3 hcf h0 h1 h2 h3 h4 HW1
    go_wp2_with fail
    go_loopw [7, 51] (fun out i wr => ∃ j : Nat, j ≤ m ∧ i = .int .i64 j ∧ OwnInts wr wc.heap.size out (outTo ls len j) ∧ Below wc.heap.size wc wr) (fun _ i _ => m - (intOf i).toNat)
    case atStart => exact ⟨0, Nat.zero_le _, rfl, World.ownsRow_nil _ _ _ _, Below.refl _ _⟩
    case round =>
      obtain ⟨j, hj, rfl, hown, hbr⟩ := hrel
      by_cases hjm : j < m
      · obtain ⟨lb, loff, rfl, hlb, hcells⟩ := Hl4.out (by omega)
        have hm := Hm.out
        have hy : wr.cell? ⟨lb, loff + j, none⟩ = some (.int .i64 (ls.getD j 0)) := by
          rw [hbr.cell hlb]; exact hcells j _ (by simp [intVs, List.getD, List.getElem?_eq_getElem (show j < ls.length by omega)])
        have hz : wr.cell? ⟨lb, loff, none⟩ = some (.int .i64 (ls.getD 0 0)) := by
          rw [hbr.cell hlb]; exact hcells 0 _ (by simp [intVs, List.getD, List.getElem?_eq_getElem (show 0 < ls.length by omega)])
        have hf : wr.cell? ⟨w.heap.size, 4, none⟩ = some (.slice (some ⟨b, off, none⟩) len cap) := by
          rw [hbr.cell (by show w.heap.size < _; omega)]; exact Hcf.out
        have hlast : outTo ls len (j + 1) = outTo ls len j ++ if keeps ls len j = true then [ls.getD j 0] else [] := rfl
        have hkeep : keeps ls len j = decide (0 ≤ ls.getD j 0 ∧ ls.getD j 0 < len ∧ (j = 0 ∨ ls.getD j 0 ≠ ls.getD 0 0)) := rfl
        have Hlast := Lib.hid hlast
        have Hkeep := Lib.hid hkeep
        have Hown := Lib.hid hown
        clear hm hcells hlast hkeep hown
        generalize ls.getD j 0 = y at *
        generalize ls.getD 0 0 = z at *
        have hlo : (outTo ls len j).length ≤ 1000000000000 := Nat.le_trans (outTo_le ls len j) (by omega)
        by_cases hA : 0 ≤ y ∧ y < len ∧ (j = 0 ∨ y ≠ z)
        · obtain ⟨hA1, hA2, hA3⟩ := hA
          have hA4 : ((j : Int) == 0) = true ∨ (((j : Int) == 0) = false ∧ (y != z) = true) := by
            rcases hA3 with h | h
            · exact Or.inl (beq_iff_eq.2 (by omega))
            · by_cases h0 : j = 0
              · exact Or.inl (beq_iff_eq.2 (by omega))
              · exact Or.inr ⟨beq_eq_false_iff_ne.2 (by omega), bne_iff_ne.2 h⟩
          have Hk : Hid (keeps ls len j = true) := by rw [Hkeep.out]; exact decide_eq_true ⟨hA1, hA2, hA3⟩
          clear hA3 Hkeep
          rcases hA4 with h5 | ⟨h5, h6⟩
          all_goals
            go_wp2_with (at_builtin; refine append_int rfl _ _ rfl wc.heap.size _ _ rfl Hown.out y rfl hlo hbr.size ?_)
            intro v' w' hown' hgr hfr hbb
            have hbr' := hbb _ _ hbr (Nat.le_refl _)
            have HH := Lib.hid hown'
            clear hown' hgr hbb hfr
            go_wp2_with fail
            go_roundw
            case rel =>
              have hown' := HH.out
              refine ⟨j + 1, ?_, (by go_num), ?_, hbr'⟩
              · omega
              · rw [Hlast.out, if_pos Hk.out]; exact hown'
            case measure => simp [intOf]; omega
        · have Hk : Hid (¬ keeps ls len j = true) := by rw [Hkeep.out, decide_eq_true_iff]; exact hA
          have hA4 : y < 0 ∨ (0 ≤ y ∧ len ≤ y) ∨ (0 ≤ y ∧ y < len ∧ ((j : Int) == 0) = false ∧ (y != z) = false) := by
            by_cases g1 : 0 ≤ y
            · by_cases g2 : y < len
              · refine Or.inr (Or.inr ⟨g1, g2, beq_eq_false_iff_ne.2 (fun h => hA ⟨g1, g2, Or.inl (by omega)⟩), ?_⟩)
                by_cases g3 : y = z
                · simp [g3]
                · exact absurd ⟨g1, g2, Or.inr g3⟩ hA
              · exact Or.inr (Or.inl ⟨g1, by omega⟩)
            · exact Or.inl (by omega)
          clear hA Hkeep
          rcases hA4 with h5 | ⟨h5, h6⟩ | ⟨h5, h6, h7, h8⟩
          all_goals
            go_wp2_with fail
            go_roundw
            case rel => exact ⟨j + 1, by omega, by go_num, by rw [Hlast.out, if_neg Hk.out, List.append_nil]; exact Hown.out, hbr⟩
            case measure => simp [intOf]; omega
      · have ej : j = m := by omega
        subst ej
        have Hown := Lib.hid hown
        clear hown
        go_wp2_with fail
        go_ret
        refine ⟨_, rfl, ?_, hbw.trans (hbr.mono (by omega))⟩
        rw [Hls.out, ← Hm.out]
        exact ownsRow_mono Hown.out (by omega)

/-- Where an instruction leads, by the document. -/
def aheadB (op : Int) : Bool := knownB op && (op != 0 && (op != 14 && op != 18))
def nextOf (x : Ins) (len k : Nat) : List Int :=
  (if aheadB x.op = true ∧ k + 1 < len then [(k : Int) + 1] else []) ++ (if targetB x.op = true ∧ 0 ≤ x.n ∧ x.n < len ∧ ¬ (aheadB x.op = true ∧ x.n = (k : Int) + 1) then [x.n] else [])
def nextL (code : List Ins) (k : Int) : List Int := if k < 0 then [] else match code[k.toNat]? with
  | none => []
  | some x => nextOf x code.length k.toNat

theorem nextOf_eq (x : Ins) (len k : Nat) (hk : k < len) : outTo (cand x k) len (cand x k).length = nextOf x len k := by
  obtain ⟨op, a, b, c, n⟩ := x
  unfold nextOf cand
  simp only
  by_cases h1 : op = 14
  · subst h1; simp [aheadB, targetB, outTo, keeps, knownB]
  by_cases h2 : op = 18
  · subst h2; simp [aheadB, targetB, outTo, keeps, knownB]
  have ha : ∀ q : Int, (q = 15 ∨ q = 16 ∨ q = 17) → aheadB q = true ∧ targetB q = true := by
    intro q hq; rcases hq with rfl | rfl | rfl <;> simp [aheadB, targetB, knownB]
  by_cases h3 : op = 15 ∨ op = 16 ∨ op = 17
  · obtain ⟨e1, e2⟩ := ha op h3
    rw [if_neg (by omega), if_pos h3, e1, e2]
    simp only [List.length_cons, List.length_nil, outTo, keeps, List.getD_cons_zero, List.getD_cons_succ, decide_eq_true_eq, true_and, List.nil_append]
    have e3 : ((k : Int) + 1 < len) = (k + 1 < len) := by apply propext; omega
    have e4 : (0 ≤ (k : Int) + 1) = True := by apply propext; simp; omega
    simp only [e3, e4, true_and, true_or, and_true]
    congr 1
    by_cases e5 : n = (k : Int) + 1 <;> simp [e5]
  rw [if_neg (by omega), if_neg h3]
  have ht : targetB op = false := by simp [targetB]; omega
  by_cases h4 : op ≠ 0 ∧ knownB op = true
  · have e1 : aheadB op = true := by simp [aheadB, h4.2, h4.1, h1, h2]
    rw [if_pos h4, e1, ht]
    have e3 : ((k : Int) + 1 < len) = (k + 1 < len) := by apply propext; omega
    have e4 : (0 ≤ (k : Int) + 1) = True := by apply propext; simp; omega
    simp [outTo, keeps, e3, e4]
  · have e1 : aheadB op = false := by
      by_cases h5 : op = 0
      · simp [aheadB, h5]
      · have h6 : knownB op = false := by simpa [h5] using h4
        simp [aheadB, h6]
    rw [if_neg h4, e1, ht]
    simp [outTo]

/-- A function's value: its code alone counts here. -/
abbrev fnV (s : ByteArray) (vp : Value) (regs words : Int) (vc : Value) : Value := .agg #[.string s, vp, .int .i64 regs, .int .i64 words, vc]

def RetInts (l : List Int) (w : World) (e : Ending) (w' : World) : Prop := ∃ v, e = .returned v ∧ OwnInts w' w.heap.size v l ∧ Below w.heap.size w w'

set_option maxHeartbeats 400000 in
theorem next_any (s : ByteArray) (vp : Value) (regs words : Int) (vc : Value) (code : List Ins) (k : Int) (w : World) (hlen : code.length * 40 ≤ 140737488351232) (hc : CodeIn w vc code) :
    Calls Tryd.prog 44 #[fnV s vp regs words vc, .int .i64 k] w (RetInts (nextL code k) w) := by
  have hc0 := hc
  obtain ⟨_, a, cap, rfl, h1, h2, h3, h4⟩ := hc0
  by_cases hk : k < 0
  · have e : nextL code k = [] := by simp [nextL, hk]
    rw [e]
    clear hc h4 h3 h2 h1
    go_enter Tryd.func44, Tryd.ntmps44
    go_wp2_with fail
    go_ret
    exact ⟨_, rfl, World.ownsRow_nil _ _ _ _, (Below.refl _ _).alloc (Nat.le_refl _) _⟩
  by_cases hk2 : code.length ≤ k
  · have e : nextL code k = [] := by simp only [nextL, if_neg hk]; rw [List.getElem?_eq_none (by omega)]
    rw [e]
    clear hc h4 h3 h2 h1
    have hkk : 0 ≤ k := by omega
    go_enter Tryd.func44, Tryd.ntmps44
    go_wp2_with fail
    go_ret
    exact ⟨_, rfl, World.ownsRow_nil _ _ _ _, (Below.refl _ _).alloc (Nat.le_refl _) _⟩
  obtain ⟨q, rfl⟩ := Int.eq_ofNat_of_zero_le (show 0 ≤ k by omega)
  have hq : q < code.length := by omega
  obtain ⟨b, off, rfl, hb, _⟩ := h4 (by omega)
  refine (next_in s vp regs words code b off cap q code[q] w (List.getElem?_eq_getElem hq) hq hlen hb hc).mono ?_
  rintro e w' ⟨v, rfl, ho, hbl⟩
  refine ⟨v, rfl, ?_, hbl⟩
  have e : nextL code q = nextOf code[q] code.length q := by simp [nextL, hq, hk]
  rw [e, ← nextOf_eq _ _ _ hq]
  exact ho
end Go.Proofs.YtapjdndcnenadaaDoor
