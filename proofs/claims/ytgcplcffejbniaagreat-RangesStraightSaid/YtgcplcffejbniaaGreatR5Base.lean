/- R5's look at ranges: what is known, what may stand in a bound. -/
import Derived.Test.YtgcplcffejbniaaGreatN4Base
import Derived.Test.YtgcplcffejbniaaGreatRgEvery
namespace Go.Proofs.YtgcplcffejbniaaGreat
open Go.RowKit Go.Maps

/-- A walk of R5 in block c. -/
structure W5At (w : World) (c : Nat) (vw vf kv : Value) (K : Known) (n e : Int) : Prop where
  c0 : w.cell? ⟨c, 0, none⟩ = some vw
  c1 : w.cell? ⟨c, 1, none⟩ = some vf
  c2 : w.cell? ⟨c, 2, none⟩ = some kv
  c3 : w.cell? ⟨c, 3, none⟩ = some (.int .i64 n)
  c4 : w.cell? ⟨c, 4, none⟩ = some (.int .i64 e)
  f : ∀ j, j < 5 → w.frozen? ⟨c, j, none⟩ = false
  known : OwnVars w (c + 1) kv K
  kinds : ∀ p ∈ K, 1 ≤ p.2 ∧ p.2 ≤ 4
theorem W5At.in {w : World} {c : Nat} {vw vf kv : Value} {K : Known} {n e : Int} (h : W5At w c vw vf kv K n e) : c < w.heap.size := block_lt_of_cell h.c0
theorem W5At.own {w : World} {c : Nat} {vw vf kv : Value} {K : Known} {n e : Int} (h : W5At w c vw vf kv K n e) : ∀ k, kv.ownBlock = some k → c < k ∧ k < w.heap.size := fun k e => by
  have := World.ownsRow.lt h.known k e
  exact ⟨by omega, this.2⟩
theorem W5At.oth {S : Nat → Prop} {w w' : World} {c : Nat} {vw vf kv : Value} {K : Known} {n e : Int} (h : W5At w c vw vf kv K n e) (hO : Oth S w w') (hc : ¬ S c) (hk : ∀ k, kv.ownBlock = some k → ¬ S k) : W5At w' c vw vf kv K n e :=
  have q := h.in
  have k := fun j => hO.cell (p := ⟨c, j, none⟩) q hc
  ⟨(k _).trans h.c0, (k _).trans h.c1, (k _).trans h.c2, (k _).trans h.c3, (k _).trans h.c4, fun j hj => (hO.frozen (p := ⟨c, j, none⟩) q hc).trans (h.f j hj), h.known.oth hO hk, h.kinds⟩
theorem W5At.later {w w' : World} {c : Nat} {vw vf kv : Value} {K : Known} {n e : Int} (h : W5At w c vw vf kv K n e) (hb : Below w.heap.size w w') : W5At w' c vw vf kv K n e :=
  h.oth (S := fun _ => False) (.of_below hb) (fun h => h) (fun _ _ h => h)
theorem W5At.to {w : World} {c : Nat} {vw vf kv : Value} {K K' : Known} {n n' e e' : Int} (h : W5At w c vw vf kv K n e) (h1 : K = K') (h2 : n = n') (h3 : e = e') : W5At w c vw vf kv K' n' e' := by subst h1; subst h2; subst h3; exact h
/-- A cell of the walk's block is written. -/
theorem W5At.put {w : World} {c : Nat} {vw vf kv : Value} {K : Known} {n e : Int} (h : W5At w c vw vf kv K n e) (o : Nat) (ho : o = 3 ∨ o = 4) (z : Int) :
    W5At (w.setCell ⟨c, o, none⟩ (.int .i64 z)) c vw vf kv K (if o = 3 then z else n) (if o = 4 then z else e) := by
  have q := h.in
  have ow := h.own
  have hO : Oth (· = c) w (w.setCell ⟨c, o, none⟩ (.int .i64 z)) := (Oth.refl (· = c) w).set (p := ⟨c, o, none⟩) rfl _
  have ne : ∀ j, j ≠ o → (w.setCell ⟨c, o, none⟩ (.int .i64 z)).cell? ⟨c, j, none⟩ = w.cell? ⟨c, j, none⟩ := fun j hj => World.cell?_setCell_other _ _ _ _ (by intro e; injection e with e1 e2; exact hj e2.symm)
  have fr : ∀ j, (w.setCell ⟨c, o, none⟩ (.int .i64 z)).frozen? ⟨c, j, none⟩ = w.frozen? ⟨c, j, none⟩ := fun j => World.frozen?_setCell _ _ _ _
  refine ⟨(ne 0 (by omega)).trans h.c0, (ne 1 (by omega)).trans h.c1, (ne 2 (by omega)).trans h.c2, ?_, ?_, fun j hj => (fr j).trans (h.f j hj), h.known.oth hO (fun k e => by have := ow k e; omega), h.kinds⟩
  · rcases ho with rfl | rfl
    · exact World.cell?_setCell_same' _ _ _ (by rw [h.c3]; rfl)
    · exact (ne 3 (by omega)).trans h.c3
  · rcases ho with rfl | rfl
    · exact (ne 4 (by omega)).trans h.c4
    · exact World.cell?_setCell_same' _ _ _ (by rw [h.c4]; rfl)
theorem W5At.putKnown {w w' : World} {c : Nat} {vw vf kv kv' : Value} {K K' : Known} {n e : Int} (h : W5At w c vw vf kv K n e) {S : Nat → Prop} (hO : Oth S w w') (hc : ¬ S c) (hk : OwnVars w' (c + 1) kv' K') (hK : ∀ p ∈ K', 1 ≤ p.2 ∧ p.2 ≤ 4) :
    W5At (w'.setCell ⟨c, 2, none⟩ kv') c vw vf kv' K' n e := by
  have q := h.in
  have k0 := fun j => hO.cell (p := ⟨c, j, none⟩) q hc
  have kf := fun j => hO.frozen (p := ⟨c, j, none⟩) q hc
  have hO2 : Oth (· = c) w' (w'.setCell ⟨c, 2, none⟩ kv') := (Oth.refl (· = c) w').set (p := ⟨c, 2, none⟩) rfl _
  have ne : ∀ j, j ≠ 2 → (w'.setCell ⟨c, 2, none⟩ kv').cell? ⟨c, j, none⟩ = w.cell? ⟨c, j, none⟩ := fun j hj => (World.cell?_setCell_other _ _ _ _ (by intro e; injection e with e1 e2; exact hj e2.symm)).trans (k0 j)
  exact ⟨(ne 0 (by omega)).trans h.c0, (ne 1 (by omega)).trans h.c1, World.cell?_setCell_same' _ _ _ (by rw [k0 2, h.c2]; rfl), (ne 3 (by omega)).trans h.c3, (ne 4 (by omega)).trans h.c4, fun j hj => (World.frozen?_setCell _ _ _ _).trans ((kf j).trans (h.f j hj)),
    hk.oth hO2 (fun k e => by have := World.ownsRow.lt hk k e; omega), hK⟩
theorem W5At.cut {w : World} {c : Nat} {vw vf : Value} {a : Option Addr} {m cap : Nat} {K : Known} {n e : Int} (h : W5At w c vw vf (.slice a m cap) K n e) {j : Nat} (hj : j ≤ K.length) : W5At (w.setCell ⟨c, 2, none⟩ (.slice a j cap)) c vw vf (.slice a j cap) (K.take j) n e :=
  h.putKnown (Oth.refl (fun _ => False) w) (fun h => h) (h.known.take hj) fun p hp => h.kinds p (List.mem_of_mem_take hp)
theorem W5At.wt {w : World} {c : Nat} {vw vf kv : Value} {K : Known} {n e : Int} (h : W5At w c vw vf kv K n e) {k : Nat} (hk : WT c c c kv k) : c ≤ k ∧ k < w.heap.size := by
  have q := h.in
  rcases hk with e | e | e | e
  · omega
  · omega
  · omega
  · have := h.own k e; omega
theorem WStep.below5 {w w0 w' : World} {c : Nat} {vw vf kv kv' : Value} {K : Known} {n e : Int} (h : WStep w w' c c c kv kv') (hK : W5At w c vw vf kv K n e) (hB : Below w0.heap.size w0 w) (hb : w0.heap.size ≤ c) : Below w0.heap.size w0 w' :=
  hB.trans (h.oth.below hB.size fun k hk => by have := (hK.wt hk).1; omega)
theorem WStep.cut5 {w : World} {c : Nat} {a : Option Addr} {m cap j : Nat} : WStep w (w.setCell ⟨c, 2, none⟩ (.slice a j cap)) c c c (.slice a m cap) (.slice a j cap) :=
  ⟨(Oth.refl _ _).set (p := ⟨c, 2, none⟩) (.inr (.inl rfl)) _, fun _ _ h => by cases a <;> exact h⟩
/-- May a name stand in a bound? -/
def cntO (K : Known) (s : ByteArray) : Bool := decide (kindOf K s = 1 ∨ kindOf K s = 4)
set_option maxRecDepth 100000 in
set_option maxHeartbeats 2000000 in
theorem counts5_any (w : World) (c : Nat) (vw vf kv : Value) (K : Known) (n e : Int) (s : ByteArray) (h : W5At w c vw vf kv K n e) (hl : K.length ≤ 100000) :
    Calls Tryz.prog 72 #[ptrV c, .string s] w (fun E w' => E = .returned (.bool (cntO K s)) ∧ w = w') := by
  obtain ⟨a, cap, rfl, hc1, hc2⟩ := h.known.form
  obtain ⟨m, hm⟩ : ∃ m, m = K.length := ⟨_, rfl⟩
  have c2 := h.c2
  rw [← hm] at c2
  have H := Lib.hid h
  have Hm := Lib.hid hm
  have hm2 : m ≤ 100000 := by omega
  clear h hm hc1 hc2
  go_enter Tryz.func72, Tryz.ntmps72
  go_wp2_with fail
  go_loopg [5] m (fun g iv wx => ∃ i : Nat, g = m - i ∧ iv = .int .i64 (i : Int) ∧ i ≤ m ∧ s ∉ (K.take i).map (·.1) ∧ wx = w)
  case atStart => exact ⟨0, rfl, rfl, Nat.zero_le _, by simp, rfl⟩
  case round =>
    obtain ⟨i, hg, rfl, hi, hn, rfl⟩ := hrel
    have Hg := Lib.hid hg
    have Hn := Lib.hid hn
    clear hg hn
    by_cases him : i < m
    · obtain ⟨p, hp⟩ : ∃ p, K[i]? = some p := ⟨_, List.getElem?_eq_getElem (by rw [← Hm.out]; exact him)⟩
      obtain ⟨b, off, rfl, hb, e1, e2⟩ := H.out.known.cell hp
      have Hp := Lib.hid hp
      have hpk := H.out.kinds p (List.mem_of_getElem? hp)
      clear hp
      by_cases hs : p.1 = s
      · have Hres : Hid (kindOf K s = p.2) := kindOf_hit Hp.out Hn.out hs
        have hq : (p.1.toList == s.toList) = true := by rw [bytes_beq]; exact decide_eq_true hs
        have hk4 : p.2 = 1 ∨ p.2 = 2 ∨ p.2 = 3 ∨ p.2 = 4 := by omega
        clear hs hpk
        rcases hk4 with hk | hk | hk | hk
        all_goals
          have Hk := Lib.hid hk
          rw [hk] at e2
          simp only [kb] at e2
          clear hk
          go_wp2_with fail
          go_ret
          exact ⟨by unfold cntO; rw [Hres.out, Hk.out]; rfl, rfl⟩
      · have hq : (p.1.toList == s.toList) = false := by rw [bytes_beq]; exact decide_eq_false hs
        have Hs := Lib.hid hs
        clear hs hpk
        go_wp2_with fail
        go_roundg (m - (i + 1))
        case measure => have := Hg.out; omega
        case rel => exact ⟨i + 1, rfl, by go_num, him, by rw [take_next Hp.out, List.map_append, List.mem_append]; rintro (h | h); exact Hn.out h; simp at h; exact Hs.out h.symm, rfl⟩
    · obtain rfl : m = i := by omega
      have Hres : Hid (kindOf K s = 0) := by
        show _ = _
        refine kindOf_not ?_
        have h := Hn.out
        rw [List.take_of_length_le (by rw [← Hm.out]; exact Nat.le_refl _)] at h
        exact h
      go_wp2_with fail
      go_ret
      exact ⟨by unfold cntO; rw [Hres.out]; rfl, rfl⟩
/-- The first thing that is wrong is kept. -/
theorem wrong5_any (w : World) (c : Nat) (vw vf kv : Value) (K : Known) (n e x : Int) (h : W5At w c vw vf kv K n e) :
    Calls Tryz.prog 49 #[ptrV c, .int .i64 x] w (fun E w' => E = .returned (.tuple #[]) ∧ W5At w' c vw vf kv K n (keepE e x) ∧ WStep w w' c c c kv kv) := by
  have c4 := h.c4
  have f4 := h.f 4 (by decide)
  have H := Lib.hid h
  clear h
  by_cases he : e = 0
  · subst he
    go_enter Tryz.func49, Tryz.ntmps49
    go_wp2_with fail
    refine bodyPost_end (results_none rfl _ _ _) rfl ?_
    exact ⟨rfl, H.out.put 4 (by omega) x, .set _ _⟩
  · have hq : (e == 0) = false := by simp [he]
    have He := Lib.hid he
    clear he
    go_enter Tryz.func49, Tryz.ntmps49
    go_wp2_with fail
    refine bodyPost_end (results_none rfl _ _ _) rfl ?_
    exact ⟨rfl, by rw [keepE_no He.out]; exact H.out, .refl _ _ _ _ _⟩
/-- How many parameters a function has. -/
def parN (F : List Fn) (s : ByteArray) : Int := match F.find? (fun f => decide (f.name = s)) with | some f => f.params.length | none => -1
theorem parN_hit {F : List Fn} {i : Nat} {f : Fn} {s : ByteArray} (h : F[i]? = some f) (hs : f.name = s) (hn : ∀ j y, j < i → F[j]? = some y → y.name ≠ s) : parN F s = f.params.length := by
  have : F.find? (fun f => decide (f.name = s)) = some f := by
    induction F generalizing i with
    | nil => simp at h
    | cons y l ih =>
      cases i with
      | zero => simp at h; subst h; simp [hs]
      | succ i =>
        rw [List.find?_cons_of_neg (by simpa using hn 0 y (by omega) rfl)]
        exact ih (i := i) (by simpa using h) fun j z hj hz => hn (j + 1) z (by omega) (by simpa using hz)
  unfold parN; rw [this]
theorem parN_none {F : List Fn} {s : ByteArray} (hn : ∀ (j : Nat) y, F[j]? = some y → y.name ≠ s) : parN F s = -1 := by
  have : F.find? (fun f => decide (f.name = s)) = none := by
    rw [List.find?_eq_none]
    intro y hy
    obtain ⟨j, hj⟩ := List.getElem?_of_mem hy
    simpa using hn j y hj
  unfold parN; rw [this]
set_option maxRecDepth 100000 in
set_option maxHeartbeats 2000000 in
theorem params5_any (F : List Fn) (vf : Value) (vp vb : Nat → Value) (w0 w : World) (hF : FnsIn w0 F vf vp vb) (hB : Below w0.heap.size w0 w) (c : Nat) (vw kv : Value) (K : Known) (n e : Int) (s : ByteArray) (h : W5At w c vw vf kv K n e) :
    Calls Tryz.prog 73 #[ptrV c, .string s] w (fun E w' => E = .returned (.int .i64 (parN F s)) ∧ w = w') := by
  obtain ⟨a, cap, rfl, hc1, hc2⟩ := hF.row.form
  obtain ⟨m, hm⟩ : ∃ m, m = F.length := ⟨_, rfl⟩
  have c1 := h.c1
  rw [← hm] at c1
  have hm62 : m ≤ 9223372036854775807 := by have : maxLen ≤ 9223372036854775807 := by decide
                                            omega
  have Hrow : Hid (RowOf w0 (.slice a m cap) F.length 3 (fun b o i => ∀ x, F[i]? = some x → FnCells w0 b o x (vp i) (vb i))) := by have := hF.row; rw [← hm] at this ⊢; exact this
  have HF := Lib.hid hF
  have Hm := Lib.hid hm
  have HB := Lib.hid hB
  clear h hm hc1 hc2 hF hB
  go_enter Tryz.func73, Tryz.ntmps73
  go_wp2_with fail
  go_loopg [5] m (fun g iv wx => ∃ i : Nat, g = m - i ∧ iv = .int .i64 (i : Int) ∧ i ≤ m ∧ (∀ j y, j < i → F[j]? = some y → y.name ≠ s) ∧ wx = w)
  case atStart => exact ⟨0, rfl, rfl, Nat.zero_le _, fun j y h => by omega, rfl⟩
  case round =>
    obtain ⟨i, hg, rfl, hi, hn, rfl⟩ := hrel
    have Hg := Lib.hid hg
    have Hn := Lib.hid hn
    clear hg hn
    by_cases him : i < m
    · obtain ⟨p, hp⟩ : ∃ p, F[i]? = some p := ⟨_, List.getElem?_eq_getElem (by rw [← Hm.out]; exact him)⟩
      obtain ⟨b, off, rfl, hb, hP⟩ := Hrow.out.at (i := i) (by rw [← Hm.out]; exact him)
      have hfc := (hP p hp).later HB.out hb
      obtain ⟨ap, cp, hvp, -⟩ := (HF.out.params i p hp).form
      rw [hvp] at hfc
      obtain ⟨e0, e1, -⟩ := hfc
      have Hp := Lib.hid hp
      clear hp hP hvp
      by_cases hs : p.name = s
      · have Hres : Hid (parN F s = p.params.length) := parN_hit Hp.out hs Hn.out
        have hq : (p.name.toList == s.toList) = true := by rw [bytes_beq]; exact decide_eq_true hs
        clear hs
        go_wp2_with fail
        go_ret
        exact ⟨by rw [Hres.out]; rfl, rfl⟩
      · have hq : (p.name.toList == s.toList) = false := by rw [bytes_beq]; exact decide_eq_false hs
        have Hs := Lib.hid hs
        clear hs
        go_wp2_with fail
        go_roundg (m - (i + 1))
        case measure => have := Hg.out; omega
        case rel => exact ⟨i + 1, rfl, by go_num, him, fun j y hj hy => by
          by_cases e : j = i
          · subst e; rw [Hp.out] at hy; cases hy; exact Hs.out
          · exact Hn.out j y (by omega) hy, rfl⟩
    · obtain rfl : m = i := by omega
      have Hres : Hid (parN F s = -1) := parN_none fun j y hy => Hn.out j y (by rw [Hm.out]; exact (List.getElem?_eq_some_iff.1 hy).1) hy
      go_wp2_with fail
      go_ret
      exact ⟨by rw [Hres.out]; rfl, rfl⟩
end Go.Proofs.YtgcplcffejbniaaGreat
