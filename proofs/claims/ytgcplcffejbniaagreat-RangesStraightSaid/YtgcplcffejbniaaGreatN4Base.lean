/- R4's look at names: what is known, what is wrong. -/
import Derived.Test.YtgcplcffejbniaaGreatNmStep
namespace Go.Proofs.YtgcplcffejbniaaGreat
open Go.RowKit Go.Maps

theorem Tryz.infoVar : (Tryz.prog.info? 58).map (fun i => (i.zero, i.size, i.bytes)) = some (some (.agg #[.string ⟨#[]⟩, .int .u8 0]), 2, 24) := by kernel_rfl
/-- A kind's letter. -/
def kb (k : Int) : Int := if k = 1 then 112 else if k = 2 then 118 else if k = 3 then 97 else if k = 4 then 108 else 0
def varVs (K : Known) : List Value := K.flatMap fun p => [.string p.1, .int .u8 (kb p.2)]
def OwnVars (w : World) (B : Nat) (v : Value) (K : Known) : Prop := w.ownsRow B 58 2 v K.length (varVs K)
theorem varVs_get (K : Known) (k : Nat) : (varVs K)[k * 2]? = (K[k]?).map (fun p => .string p.1) ∧ (varVs K)[k * 2 + 1]? = (K[k]?).map (fun p => .int .u8 (kb p.2)) := by
  induction K generalizing k with
  | nil => simp [varVs]
  | cons x l ih =>
    have e : varVs (x :: l) = [.string x.1, .int .u8 (kb x.2)] ++ varVs l := by simp [varVs]
    rw [e]
    cases k with
    | zero => simp
    | succ k =>
      have := ih k
      rw [show (k + 1) * 2 = k * 2 + 2 by omega, show k * 2 + 2 + 1 = (k * 2 + 1) + 2 by omega]
      simpa using this
theorem varVs_len (K : Known) : (varVs K).length = K.length * 2 := by
  induction K with
  | nil => rfl
  | cons x l ih =>
    have e : varVs (x :: l) = [.string x.1, .int .u8 (kb x.2)] ++ varVs l := by simp [varVs]
    rw [e, List.length_append, ih]
    simp
    omega
theorem bytes_beq (a b : ByteArray) : (a.toList == b.toList) = decide (a = b) := by
  rw [ByteArray.toList_eq, ByteArray.toList_eq, Bool.eq_iff_iff, beq_iff_eq, decide_eq_true_eq]
  constructor
  · intro h
    have : a.data = b.data := Array.toList_inj.1 h
    cases a; cases b; simp_all
  · intro h; rw [h]
theorem OwnVars.cell {w : World} {B : Nat} {a : Option Addr} {n cap : Nat} {K : Known} (h : OwnVars w B (.slice a n cap) K) {k : Nat} {p : ByteArray × Int} (hp : K[k]? = some p) :
    ∃ b off, a = some ⟨b, off, none⟩ ∧ b < w.heap.size ∧ w.cell? ⟨b, off + k * 2, none⟩ = some (.string p.1) ∧ w.cell? ⟨b, off + k * 2 + 1, none⟩ = some (.int .u8 (kb p.2)) := by
  have hk := (List.getElem?_eq_some_iff.1 hp).1
  obtain ⟨_, a', cap', hv, _, _, _, hc⟩ := SliceIn.of_owns h
  cases hv
  obtain ⟨b, off, rfl, hb, hc⟩ := hc (by omega)
  obtain ⟨e1, e2⟩ := varVs_get K k
  refine ⟨b, off, rfl, hb, ?_, ?_⟩
  · refine hc _ _ ?_
    rw [e1, hp]; rfl
  · rw [Nat.add_assoc]
    refine hc _ _ ?_
    rw [e2, hp]; rfl
theorem OwnVars.form {w : World} {B : Nat} {v : Value} {K : Known} (h : OwnVars w B v K) : ∃ a cap, v = .slice a K.length cap ∧ K.length ≤ cap ∧ cap ≤ maxLen := by
  obtain ⟨_, a, cap, e, h1, h2, _⟩ := SliceIn.of_owns h
  exact ⟨a, cap, e, h1, h2⟩
theorem OwnVars.oth {S : Nat → Prop} {w w' : World} {B : Nat} {v : Value} {K : Known} (h : OwnVars w B v K) (hO : Oth S w w') (hS : ∀ k, v.ownBlock = some k → ¬ S k) : OwnVars w' B v K := by
  refine ⟨h.1, ?_⟩
  rcases h.2 with h2 | ⟨g, vcap, cur, rfl, hg, hgh, r⟩
  · exact .inl h2
  · refine .inr ⟨g, vcap, cur, rfl, hg, ?_, r⟩
    rw [hO.block g (Array.getElem?_eq_some_iff.1 hgh).1 (hS g rfl)]
    exact hgh
/-- The first ones alone. -/
theorem OwnVars.take {w : World} {B : Nat} {a : Option Addr} {m cap : Nat} {K : Known} (h : OwnVars w B (.slice a m cap) K) {n : Nat} (hn : n ≤ K.length) : OwnVars w B (.slice a n cap) (K.take n) := by
  have hl : (K.take n).length = n := by simp; omega
  refine ⟨by rw [hl, varVs_len, hl], ?_⟩
  rw [hl]
  rcases h.2 with ⟨h1, h2⟩ | ⟨g, vcap, cur, e, hg, hgh, h1, h2, h3, h4⟩
  · cases h1
    have : n = 0 := by omega
    subst this
    exact .inl ⟨rfl, rfl⟩
  · cases e
    refine .inr ⟨g, cap, cur, rfl, hg, hgh, by omega, h2, h3, ?_⟩
    have hcut : varVs (K.take n) = (varVs K).take (n * 2) := by
      clear h h1 h2 h3 h4 hl hgh
      induction K generalizing n with
      | nil => simp [varVs]
      | cons x l ih =>
        cases n with
        | zero => simp [varVs]
        | succ n =>
          have e : ∀ (x : ByteArray × Int) l, varVs (x :: l) = .string x.1 :: .int .u8 (kb x.2) :: varVs l := fun x l => by simp [varVs]
          rw [List.take_succ_cons, e, e, ih (n := n) (by simpa using hn), show (n + 1) * 2 = n * 2 + 1 + 1 by omega, List.take_succ_cons, List.take_succ_cons]
    rw [hcut, ← h4, List.take_take, Nat.min_eq_left (by omega)]
/-- 'w.known = append(w.known, Var{name, kind})'. -/
theorem append_var {ops : Array Oper} {rest : List Oper} {o : Oper} {a : Act} {Q : Exit → Act → World → Prop} {w : World} (hgd : o.guard = none) (s x : Operand)
    (ho : o.op = .call { callee := .builtin .append, args := #[s, x], argTypes := #[54, 54] })
    (B : Nat) (v : Value) (K : Known) (hs : a.eval s = v) (hown : OwnVars w B v K) (y : ByteArray) (z k : Int) (hz : kb k = z) (hx : a.eval x = .slice (some ⟨w.heap.size, 0, none⟩) 1 1)
    (hl : K.length ≤ 1000000000000) (hB : B ≤ w.heap.size)
    (h : ∀ v' w', OwnVars w' B v' (K ++ [(y, k)]) → (w.alloc (.cells #[.string y, .int .u8 z] 58)).grownBy w' v.ownBlock → Fresh (w.alloc (.cells #[.string y, .int .u8 z] 58)) v v' → wpList Tryz.prog ops Q rest (a.put o.dst v') w') :
    wpList Tryz.prog ops Q (o :: rest) a (w.alloc (.cells #[.string y, .int .u8 z] 58)) := by
  refine append_gen hgd s x 54 ho Tryz.underlying54 Tryz.infoVar rfl (by decide) B v K.length (varVs K) hs (World.ownsRow.alloc hown _) _ 1 [.string y, .int .u8 z] hx (sliceIn_new w [.string y, .int .u8 z] 1 2 58 rfl (by decide)) ?_ ?_ ?_ ?_ ?_
  · intro u hu; simp at hu; rcases hu with rfl | rfl <;> rfl
  · unfold maxLen; omega
  · omega
  · simp; omega
  · intro v' w' h1 h2 h3 _
    exact h v' w' (by unfold OwnVars varVs at *; rw [← hz] at h1; simpa using h1) h2 h3

/-- A walk of R4 in block c; its calls lie in block bs. -/
structure RAt (w : World) (c bs : Nat) (vw vf kv : Value) (K : Known) (fn n loops e : Int) (N : Nat) (C : List Int) : Prop where
  c0 : w.cell? ⟨c, 0, none⟩ = some vw
  c1 : w.cell? ⟨c, 1, none⟩ = some vf
  c2 : w.cell? ⟨c, 2, none⟩ = some (.int .i64 fn)
  c3 : w.cell? ⟨c, 3, none⟩ = some (.int .i64 n)
  c4 : w.cell? ⟨c, 4, none⟩ = some (.int .i64 loops)
  c5 : w.cell? ⟨c, 5, none⟩ = some kv
  c6 : w.cell? ⟨c, 6, none⟩ = some (.int .i64 e)
  c7 : w.cell? ⟨c, 7, none⟩ = some (.slice (some ⟨bs, 0, none⟩) N N)
  f : ∀ j, j < 8 → w.frozen? ⟨c, j, none⟩ = false
  known : OwnVars w (c + 1) kv K
  kinds : ∀ p ∈ K, 1 ≤ p.2 ∧ p.2 ≤ 4
  calls : ∀ i : Nat, i < N → w.cell? ⟨bs, i, none⟩ = some (.bool (decide ((i : Int) ∈ C))) ∧ w.frozen? ⟨bs, i, none⟩ = false
  lt : bs < c
theorem RAt.in {w : World} {c bs : Nat} {vw vf kv : Value} {K : Known} {fn n loops e : Int} {N : Nat} {C : List Int} (h : RAt w c bs vw vf kv K fn n loops e N C) : c < w.heap.size := block_lt_of_cell h.c0
theorem RAt.own {w : World} {c bs : Nat} {vw vf kv : Value} {K : Known} {fn n loops e : Int} {N : Nat} {C : List Int} (h : RAt w c bs vw vf kv K fn n loops e N C) : ∀ k, kv.ownBlock = some k → c < k ∧ k < w.heap.size := fun k e => by
  have := World.ownsRow.lt h.known k e
  exact ⟨by omega, this.2⟩
theorem RAt.oth {S : Nat → Prop} {w w' : World} {c bs : Nat} {vw vf kv : Value} {K : Known} {fn n loops e : Int} {N : Nat} {C : List Int} (h : RAt w c bs vw vf kv K fn n loops e N C) (hO : Oth S w w') (hc : ¬ S c) (hb : ¬ S bs) (hk : ∀ k, kv.ownBlock = some k → ¬ S k) : RAt w' c bs vw vf kv K fn n loops e N C :=
  have q := h.in
  have k := fun j => hO.cell (p := ⟨c, j, none⟩) q hc
  ⟨(k _).trans h.c0, (k _).trans h.c1, (k _).trans h.c2, (k _).trans h.c3, (k _).trans h.c4, (k _).trans h.c5, (k _).trans h.c6, (k _).trans h.c7, fun j hj => (hO.frozen (p := ⟨c, j, none⟩) q hc).trans (h.f j hj),
    h.known.oth hO hk, h.kinds, fun i hi => ⟨(hO.cell (p := ⟨bs, i, none⟩) (by have := h.lt; show bs < _; omega) hb).trans (h.calls i hi).1, (hO.frozen (p := ⟨bs, i, none⟩) (by have := h.lt; show bs < _; omega) hb).trans (h.calls i hi).2⟩, h.lt⟩
theorem RAt.later {w w' : World} {c bs : Nat} {vw vf kv : Value} {K : Known} {fn n loops e : Int} {N : Nat} {C : List Int} (h : RAt w c bs vw vf kv K fn n loops e N C) (hb : Below w.heap.size w w') : RAt w' c bs vw vf kv K fn n loops e N C :=
  h.oth (S := fun _ => False) (.of_below hb) (fun h => h) (fun h => h) (fun _ _ h => h)
/-- A cell of the walk's block is written. -/
theorem RAt.put {w : World} {c bs : Nat} {vw vf kv : Value} {K : Known} {fn n loops e : Int} {N : Nat} {C : List Int} (h : RAt w c bs vw vf kv K fn n loops e N C) (o : Nat) (ho : o = 3 ∨ o = 4 ∨ o = 6) (z : Int) :
    RAt (w.setCell ⟨c, o, none⟩ (.int .i64 z)) c bs vw vf kv K fn (if o = 3 then z else n) (if o = 4 then z else loops) (if o = 6 then z else e) N C := by
  have l := h.lt
  have q := h.in
  have ow := h.own
  have hO : Oth (· = c) w (w.setCell ⟨c, o, none⟩ (.int .i64 z)) := (Oth.refl (· = c) w).set (p := ⟨c, o, none⟩) rfl _
  have ne : ∀ j, j ≠ o → (w.setCell ⟨c, o, none⟩ (.int .i64 z)).cell? ⟨c, j, none⟩ = w.cell? ⟨c, j, none⟩ := fun j hj => World.cell?_setCell_other _ _ _ _ (by intro e; injection e with e1 e2; exact hj e2.symm)
  have fr : ∀ j, (w.setCell ⟨c, o, none⟩ (.int .i64 z)).frozen? ⟨c, j, none⟩ = w.frozen? ⟨c, j, none⟩ := fun j => World.frozen?_setCell _ _ _ _
  refine ⟨(ne 0 (by omega)).trans h.c0, (ne 1 (by omega)).trans h.c1, (ne 2 (by omega)).trans h.c2, ?_, ?_, (ne 5 (by omega)).trans h.c5, ?_, (ne 7 (by omega)).trans h.c7, fun j hj => (fr j).trans (h.f j hj), h.known.oth hO (fun k e => by have := ow k e; omega), h.kinds,
    fun i hi => ⟨(hO.cell (p := ⟨bs, i, none⟩) (by show bs < _; omega) (by show ¬ bs = c; omega)).trans (h.calls i hi).1, (hO.frozen (p := ⟨bs, i, none⟩) (by show bs < _; omega) (by show ¬ bs = c; omega)).trans (h.calls i hi).2⟩, l⟩
  · rcases ho with rfl | rfl | rfl
    · exact World.cell?_setCell_same' _ _ _ (by rw [h.c3]; rfl)
    · exact (ne 3 (by omega)).trans h.c3
    · exact (ne 3 (by omega)).trans h.c3
  · rcases ho with rfl | rfl | rfl
    · exact (ne 4 (by omega)).trans h.c4
    · exact World.cell?_setCell_same' _ _ _ (by rw [h.c4]; rfl)
    · exact (ne 4 (by omega)).trans h.c4
  · rcases ho with rfl | rfl | rfl
    · exact (ne 6 (by omega)).trans h.c6
    · exact (ne 6 (by omega)).trans h.c6
    · exact World.cell?_setCell_same' _ _ _ (by rw [h.c6]; rfl)
/-- What is known is another list. -/
theorem RAt.putKnown {w w' : World} {c bs : Nat} {vw vf kv kv' : Value} {K K' : Known} {fn n loops e : Int} {N : Nat} {C : List Int} (h : RAt w c bs vw vf kv K fn n loops e N C) {S : Nat → Prop} (hO : Oth S w w') (hc : ¬ S c) (hb : ¬ S bs) (hk : OwnVars w' (c + 1) kv' K') (hK : ∀ p ∈ K', 1 ≤ p.2 ∧ p.2 ≤ 4) :
    RAt (w'.setCell ⟨c, 5, none⟩ kv') c bs vw vf kv' K' fn n loops e N C := by
  have l := h.lt
  have q := h.in
  have k0 := fun j => hO.cell (p := ⟨c, j, none⟩) q hc
  have kf := fun j => hO.frozen (p := ⟨c, j, none⟩) q hc
  have hO2 : Oth (· = c) w' (w'.setCell ⟨c, 5, none⟩ kv') := (Oth.refl (· = c) w').set (p := ⟨c, 5, none⟩) rfl _
  have ne : ∀ j, j ≠ 5 → (w'.setCell ⟨c, 5, none⟩ kv').cell? ⟨c, j, none⟩ = w.cell? ⟨c, j, none⟩ := fun j hj => (World.cell?_setCell_other _ _ _ _ (by intro e; injection e with e1 e2; exact hj e2.symm)).trans (k0 j)
  refine ⟨(ne 0 (by omega)).trans h.c0, (ne 1 (by omega)).trans h.c1, (ne 2 (by omega)).trans h.c2, (ne 3 (by omega)).trans h.c3, (ne 4 (by omega)).trans h.c4, World.cell?_setCell_same' _ _ _ (by rw [k0 5, h.c5]; rfl), (ne 6 (by omega)).trans h.c6, (ne 7 (by omega)).trans h.c7, fun j hj => ((World.frozen?_setCell _ _ _ _).trans (kf j)).trans (h.f j hj),
    hk.oth hO2 (fun k e => by have := World.ownsRow.lt hk k e; omega), hK, fun i hi => ?_, l⟩
  have h1 := hO.size
  have h2 := fun j => hO.cell (p := ⟨bs, j, none⟩) (by show bs < _; omega) hb
  have h3 := fun j => hO.frozen (p := ⟨bs, j, none⟩) (by show bs < _; omega) hb
  have h4 := fun j => hO2.cell (p := ⟨bs, j, none⟩) (by show bs < _; omega) (by show ¬ bs = c; omega)
  have h5 := fun j => hO2.frozen (p := ⟨bs, j, none⟩) (by show bs < _; omega) (by show ¬ bs = c; omega)
  exact ⟨((h4 i).trans (h2 i)).trans (h.calls i hi).1, ((h5 i).trans (h3 i)).trans (h.calls i hi).2⟩
theorem kb_zero {k : Int} (h : 1 ≤ k ∧ k ≤ 4) : kb k ≠ 0 := by
  unfold kb
  split
  · decide
  split
  · decide
  split
  · decide
  split
  · decide
  · omega
theorem kindOf_mem {K : Known} (h : ∀ p ∈ K, 1 ≤ p.2 ∧ p.2 ≤ 4) (s : ByteArray) : kindOf K s = 0 ∨ 1 ≤ kindOf K s ∧ kindOf K s ≤ 4 := by
  induction K with
  | nil => exact .inl rfl
  | cons p K ih =>
    simp only [kindOf]
    split
    · exact .inr (h p (by simp))
    · exact ih fun q hq => h q (by simp [hq])
theorem kindOf_hit {K : Known} {s : ByteArray} {i : Nat} {p : ByteArray × Int} (hp : K[i]? = some p) (h0 : s ∉ (K.take i).map (·.1)) (he : p.1 = s) : kindOf K s = p.2 := by
  induction K generalizing i with
  | nil => simp at hp
  | cons q K ih =>
    cases i with
    | zero => simp at hp; subst hp; simp [kindOf, he]
    | succ i =>
      simp only [List.take_succ_cons, List.map_cons, List.mem_cons, not_or] at h0
      simp only [kindOf]
      rw [if_neg (fun e => h0.1 e.symm)]
      exact ih (by simpa using hp) h0.2
set_option maxRecDepth 100000 in
set_option maxHeartbeats 1000000 in
theorem rkind_any (w : World) (c bs : Nat) (vw vf kv : Value) (K : Known) (fn n loops e : Int) (N : Nat) (C : List Int) (s : ByteArray) (h : RAt w c bs vw vf kv K fn n loops e N C) (hl : K.length ≤ 100000) :
    Calls Tryz.prog 69 #[ptrV c, .string s] w (fun E w' => E = .returned (.int .u8 (kb (kindOf K s))) ∧ w = w') := by
  obtain ⟨a, cap, rfl, hc1, hc2⟩ := h.known.form
  obtain ⟨m, hm⟩ : ∃ m, m = K.length := ⟨_, rfl⟩
  have c5 := h.c5
  rw [← hm] at c5
  have H := Lib.hid h
  have Hm := Lib.hid hm
  have hm2 : m ≤ 100000 := by omega
  clear h hm hc1 hc2
  go_enter Tryz.func69, Tryz.ntmps69
  go_wp2_with fail
  go_loopg [5] m (fun g iv wx => ∃ i : Nat, g = m - i ∧ iv = .int .i64 (i : Int) ∧ i ≤ m ∧ s ∉ (K.take i).map (·.1) ∧ wx = w)
  case atStart => exact ⟨0, rfl, rfl, Nat.zero_le _, by simp, rfl⟩
  case round =>
    obtain ⟨i, hg, rfl, hi, hn, rfl⟩ := hrel
    have Hg := Lib.hid hg
    have Hn := Lib.hid hn
    clear hg hn
    by_cases him : i < m
    · obtain ⟨p, hp⟩ : ∃ p, K[i]? = some p := ⟨_, List.getElem?_eq_getElem (by rw [← Hm.out]; exact him)⟩
      obtain ⟨b, off, rfl, hb, e1, e2⟩ := H.out.known.cell hp
      have Hp := Lib.hid hp
      clear hp
      by_cases hs : p.1 = s
      · have Hres : Hid (kindOf K s = p.2) := kindOf_hit Hp.out Hn.out hs
        have hq : (p.1.toList == s.toList) = true := by rw [bytes_beq]; exact decide_eq_true hs
        clear hs
        go_wp2_with fail
        go_ret
        exact ⟨by rw [Hres.out]; rfl, rfl⟩
      · have hq : (p.1.toList == s.toList) = false := by rw [bytes_beq]; exact decide_eq_false hs
        have Hs := Lib.hid hs
        clear hs
        go_wp2_with fail
        go_roundg (m - (i + 1))
        case measure => have := Hg.out; omega
        case rel => exact ⟨i + 1, rfl, by go_num, him, by rw [take_next Hp.out, List.map_append, List.mem_append]; rintro (h | h); exact Hn.out h; simp at h; exact Hs.out h.symm, rfl⟩
    · obtain rfl : m = i := by omega
      have Hres : Hid (kindOf K s = 0) := by
        show _ = _
        refine kindOf_not ?_
        have h := Hn.out
        rw [List.take_of_length_le (by rw [← Hm.out]; exact Nat.le_refl _)] at h
        exact h
      go_wp2_with fail
      go_ret
      exact ⟨by rw [Hres.out]; rfl, rfl⟩
/-- The first thing that is wrong is kept. -/
theorem rwrong_any (w : World) (c bs : Nat) (vw vf kv : Value) (K : Known) (fn n loops e : Int) (N : Nat) (C : List Int) (x : Int) (h : RAt w c bs vw vf kv K fn n loops e N C) :
    Calls Tryz.prog 70 #[ptrV c, .int .i64 x] w (fun E w' => E = .returned (.tuple #[]) ∧ RAt w' c bs vw vf kv K fn n loops (keepE e x) N C ∧ WStep w w' c bs bs kv kv) := by
  have c6 := h.c6
  have f6 := h.f 6 (by decide)
  have H := Lib.hid h
  clear h
  by_cases he : e = 0
  · subst he
    go_enter Tryz.func70, Tryz.ntmps70
    go_wp2_with fail
    refine bodyPost_end (results_none rfl _ _ _) rfl ?_
    exact ⟨rfl, H.out.put 6 (by omega) x, .set _ _⟩
  · have hq : (e == 0) = false := by simp [he]
    have He := Lib.hid he
    clear he
    go_enter Tryz.func70, Tryz.ntmps70
    go_wp2_with fail
    refine bodyPost_end (results_none rfl _ _ _) rfl ?_
    exact ⟨rfl, by rw [keepE_no He.out]; exact H.out, .refl _ _ _ _ _⟩
end Go.Proofs.YtgcplcffejbniaaGreat
