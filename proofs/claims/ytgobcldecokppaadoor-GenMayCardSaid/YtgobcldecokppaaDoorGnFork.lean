/- gen: an if, behind its condition. -/
import Derived.Test.YtgobcldecokppaaDoorGnOut
namespace Go.Proofs.YtgobcldecokppaaDoor
open Go.RowKit Go.Maps

/-- A list of statements in memory that was there ahead of the walk: its code is laid. -/
def GlFor (w0 : World) (l : List St) (v : Value) : Prop := ∀ (W : World) (B : Nat) (m : Mk) (F : ByteArray → Int) (N : Nat) (s : GS) (t : Int), Below w0.heap.size w0 W → w0.heap.size ≤ B → MkAt W B m F N s → 0 ≤ t → t + (St.totals l : Int) ≤ 1000000 → N + St.totals l ≤ 1000000000 → s.pats.length + St.totals l ≤ 1000000000 →
  s.code.length + (St.gns F l s.V s.words s.code.length t []).code.length ≤ 999999999000 →
  Calls Tryd.prog 10 #[ptrV m.b, v, .int .i64 t] W (fun E W' => E = .returned (.tuple #[]) ∧ ∃ m', MkAt W' B m' F (N + St.totals l) (s.out (St.gns F l s.V s.words s.code.length t [])) ∧ GStep W m W' m')
theorem lead_out (s : GS) (x : Ins) (o : GOut) : ((s.add [x]).out o).lead s.code.length = (s.add [{ x with n := ((s.code.length + 1 + o.code.length : Nat) : Int) }]).out o := by
  simp only [GS.lead, GS.out, GS.add, List.append_assoc, List.singleton_append, getE_mid, regsOf, List.foldl_cons, List.foldl_nil]
  simp only [List.length_append, List.length_cons]
  rw [show s.code.length + (o.code.length + 1) = s.code.length + 1 + o.code.length by omega]
theorem lead_out_add (s : GS) (x : Ins) (o : GOut) (L : List Ins) : (((s.add [x]).out o).add L).lead s.code.length = ((s.add [{ x with n := ((s.code.length + 1 + o.code.length + L.length : Nat) : Int) }]).out o).add L := by
  simp only [GS.lead, GS.out, GS.add, List.append_assoc, List.nil_append, List.cons_append, getE_mid, regsOf, List.foldl_cons, List.foldl_nil]
  simp only [List.length_append, List.length_cons]
  rw [show s.code.length + (o.code.length + L.length + 1) = s.code.length + 1 + o.code.length + L.length by omega]
/-- What an if lays down behind its condition. -/
def forkO (F : ByteArray → Int) (body els : List St) (s : GS) (n : Int) : GS :=
  let o := St.gns F body s.V s.words (s.code.length + 1) n []
  let p2 := s.code.length + 1 + o.code.length
  let p3 := if els.isEmpty then p2 else p2 + 1
  let o2 := St.gns F els o.V o.words p3 n []
  s.out ⟨[⟨16, n, 0, 0, (p3 : Int)⟩] ++ o.code ++ (if els.isEmpty then [] else [⟨14, 0, 0, 0, ((p3 + o2.code.length : Nat) : Int)⟩]) ++ o2.code, o.brk ++ o2.brk, o2.words, o2.V⟩
theorem fork_none {F : ByteArray → Int} {body : List St} {s : GS} {n : Int} (o : GOut) (ho : o = St.gns F body s.V s.words (s.code.length + 1) n []) (o2 : GOut) (ho2 : o2 = St.gns F [] o.V o.words (s.code.length + 1 + o.code.length) n []) :
    (((s.add [⟨16, n, 0, 0, ((s.code.length + 1 + o.code.length : Nat) : Int)⟩]).out o).out o2) = forkO F body [] s n := by
  simp only [forkO, ← ho, List.isEmpty_nil, if_true, ← ho2]
  simp [GS.out, GS.add, regsOf, List.foldl_append]
theorem fork_else {F : ByteArray → Int} {body els : List St} {s : GS} {n : Int} (he : els ≠ []) (o : GOut) (ho : o = St.gns F body s.V s.words (s.code.length + 1) n []) (o2 : GOut) (ho2 : o2 = St.gns F els o.V o.words (s.code.length + 1 + o.code.length + 1) n []) :
    ((((s.add [⟨16, n, 0, 0, ((s.code.length + 1 + o.code.length + 1 : Nat) : Int)⟩]).out o).add [⟨14, 0, 0, 0, ((s.code.length + 1 + o.code.length + 1 + o2.code.length : Nat) : Int)⟩]).out o2) = forkO F body els s n := by
  have h : els.isEmpty = false := by cases els; exact absurd rfl he; rfl
  simp only [forkO, ← ho, h, Bool.false_eq_true, if_false, ← ho2]
  simp [GS.out, GS.add, regsOf, List.foldl_append]
theorem forkO_len {F : ByteArray → Int} {body els : List St} {s : GS} {n : Int} (o : GOut) (ho : o = St.gns F body s.V s.words (s.code.length + 1) n []) (o2 : GOut) (ho2 : o2 = St.gns F els o.V o.words (if els.isEmpty then s.code.length + 1 + o.code.length else s.code.length + 1 + o.code.length + 1) n []) :
    (forkO F body els s n).code.length = s.code.length + 1 + o.code.length + (if els.isEmpty then 0 else 1) + o2.code.length := by
  simp only [forkO, ← ho, ← ho2]
  cases h : els.isEmpty <;> simp [GS.out] <;> omega
set_option maxRecDepth 100000 in
set_option maxHeartbeats 4000000 in
theorem fork_any (x : St) (aa ab ad ae ac : Option Addr) (na nb nd ne nc ca cb cd ce cc : Nat) (w0 : World) (hne : ne = x.els.length) (hd : GlFor w0 x.body (.slice ad nd cd)) (he : GlFor w0 x.els (.slice ae ne ce))
    (W : World) (B : Nat) (m : Mk) (F : ByteArray → Int) (N : Nat) (s : GS) (t : Int) (hB : Below w0.heap.size w0 W) (hwB : w0.heap.size ≤ B) (h : MkAt W B m F N s) (ht0 : 0 ≤ t) (ht1 : t + (St.totals x.body : Int) ≤ 1000000) (ht2 : t + (St.totals x.els : Int) ≤ 1000000)
    (hN : N + St.totals x.body + St.totals x.els ≤ 1000000000) (hP : s.pats.length + (St.gns F x.body s.V s.words (s.code.length + 1) t []).brk.length + St.totals x.els ≤ 1000000000 ∧ s.pats.length + St.totals x.body ≤ 1000000000) (hne9 : ne ≤ 1000000000) (hl : (forkO F x.body x.els s t).code.length ≤ 999999999000) :
    Calls Tryd.prog 37 #[ptrV m.b, stVal x (.slice aa na ca) (.slice ab nb cb) (.slice ad nd cd) (.slice ae ne ce) (.slice ac nc cc), .int .i64 t] W (fun E W' => E = .returned (.tuple #[]) ∧ ∃ m', MkAt W' B m' F (N + St.totals x.body + St.totals x.els) (forkO F x.body x.els s t) ∧ GStep W m W' m') := by
  obtain ⟨X, hX⟩ : ∃ X, X = W.heap.size := ⟨_, rfl⟩
  obtain ⟨W1, hW1⟩ : ∃ W1, W1 = W.alloc (.cells #[.int .i64 x.kind, .string x.name, .int .i64 x.n, .int .i64 x.a.kind, .int .i64 x.a.n, .string x.a.name, .slice aa na ca, .int .i64 x.b.kind, .int .i64 x.b.n, .string x.b.name, .slice ab nb cb, .slice ad nd cd, .slice ae ne ce, .slice ac nc cc] 56) := ⟨_, rfl⟩
  have hb1 : Below W.heap.size W W1 := by rw [hW1]; exact (Below.refl _ _).alloc (Nat.le_refl _) _
  have x11 : W1.cell? ⟨X, 11, none⟩ = some (.slice ad nd cd) := by rw [hW1, hX]; exact World.cell?_alloc_at _ _ _ _ rfl
  have x12 : W1.cell? ⟨X, 12, none⟩ = some (.slice ae ne ce) := by rw [hW1, hX]; exact World.cell?_alloc_at _ _ _ _ rfl
  have qX := block_lt_of_cell x11
  have HmT : Hid (¬ m.T X) := fun e => by have := h.inT X e; omega
  have HB1 : Hid (Below w0.heap.size w0 W1) := hB.trans (hb1.mono hB.size)
  obtain ⟨o, ho⟩ : ∃ o, o = St.gns F x.body s.V s.words (s.code.length + 1) t [] := ⟨_, rfl⟩
  obtain ⟨o2, ho2⟩ : ∃ o2, o2 = St.gns F x.els o.V o.words (if x.els.isEmpty then s.code.length + 1 + o.code.length else s.code.length + 1 + o.code.length + 1) t [] := ⟨_, rfl⟩
  have hfl := forkO_len o ho o2 ho2
  rw [hfl] at hl
  rw [← ho] at hP
  have H1 := Lib.hid (h.later hb1)
  have HW := Lib.hid (And.intro hW1 (And.intro hX hb1))
  have Hmlo := Lib.hid h.low
  have Hy := Lib.hid (And.intro hd (And.intro he (And.intro ho (And.intro ho2 (And.intro hwB hne)))))
  have Hl := Lib.hid (And.intro hl (And.intro hN hP))
  have Ht := Lib.hid (show 0 ≤ t ∧ t + (St.totals x.body : Int) ≤ 1000000 ∧ t + (St.totals x.els : Int) ≤ 1000000 ∧ t ≤ 1000000 by omega)
  clear hne hB hwB h ht0 ht1 ht2 hl hX hW1 hb1 hd he ho ho2 hN hP hfl
  unfold stVal
  go_enter_defers Tryd.func37, Tryd.ntmps37
  go_upto_region 1 with (fail)
  rw [← HW.out.1, ← HW.out.2.1]
  go_wp2_with fail
  have hp := later_any 16 t 0 ⟨⟨Ht.out.1, by have := Ht.out.2.2.2; omega⟩, zero12⟩ W1 B m F N s H1.out (by have := Hl.out.1; omega)
  refine hp.mono ?_
  rintro E w2 ⟨fv, rfl, m2, hM2, hG2, bm, ba, rfl, hlt⟩
  clear hp
  have HL2 : Hid (Later w2 m2 (laterV bm ba) s.code.length) := ⟨bm, ba, rfl, hlt⟩
  unfold laterV
  have x112 := (hG2.cell (p := ⟨X, 11, none⟩) qX HmT.out).trans x11
  have x122 := (hG2.cell (p := ⟨X, 12, none⟩) qX HmT.out).trans x12
  have HX2 := Lib.hid (And.intro (hG2.block qX HmT.out).2 (Nat.lt_of_lt_of_le qX hG2.oth.size))
  have H2 := Lib.hid (And.intro hM2 hG2)
  have HB2 : Hid (Below w0.heap.size w0 w2) := hG2.below HB1.out fun k e => Nat.le_trans Hy.out.2.2.2.2.1 (Hmlo.out k e)
  clear hM2 hG2 hlt x11 x12
  go_wp2_with fail
  have hp := Hy.out.1 w2 B m2 F N _ t HB2.out Hy.out.2.2.2.2.1 H2.out.1 Ht.out.1 Ht.out.2.1 (by have := Hl.out.2.1; omega) (by show s.pats.length + _ ≤ _; have := Hl.out.2.2; omega) (by
    rw [GS.add_len, show (s.add [⟨16, t, 0, 0, 0⟩]).V = s.V from rfl, show (s.add [⟨16, t, 0, 0, 0⟩]).words = s.words from rfl]
    simp only [List.length_cons, List.length_nil, Nat.zero_add]
    rw [← Hy.out.2.2.1]; have := Hl.out.1; omega)
  rw [H2.out.2.b, GS.add_len, show (s.add [⟨16, t, 0, 0, 0⟩]).V = s.V from rfl, show (s.add [⟨16, t, 0, 0, 0⟩]).words = s.words from rfl] at hp
  simp only [List.length_cons, List.length_nil, Nat.zero_add] at hp
  rw [← Hy.out.2.2.1] at hp
  refine hp.mono ?_
  rintro E w3 ⟨rfl, m3, hM3, hG3⟩
  clear hp
  have x113 := (hG3.cell (p := ⟨X, 11, none⟩) HX2.out.2 HX2.out.1).trans x112
  have x123 := (hG3.cell (p := ⟨X, 12, none⟩) HX2.out.2 HX2.out.1).trans x122
  have HX3 := Lib.hid (And.intro (hG3.block HX2.out.2 HX2.out.1).2 (Nat.lt_of_lt_of_le HX2.out.2 hG3.oth.size))
  have H3 := Lib.hid (And.intro hM3 (And.intro (H2.out.2.trans hG3) (HL2.out.step hG3)))
  clear hM3 hG3 x112 x122 x113
  by_cases hel : x.els = []
  · have h0 : ne = 0 := by rw [Hy.out.2.2.2.2.2, hel]; rfl
    subst h0
    have Hel := Lib.hid hel
    clear hel hne9
    go_wp2_with fail
    have hcl := H3.out.2.2.cells
    have hp := patch_any bm ba s.code.length w3 B m3 F _ _ H3.out.1 (by rw [GS.out_len, GS.add_len]; simp only [List.length_cons, List.length_nil]; omega) (by rw [GS.out_len, GS.add_len]; simp only [List.length_cons, List.length_nil]; have := Hl.out.1; omega) hcl.1 hcl.2
    refine hp.mono ?_
    rintro E w4 ⟨rfl, hM4, hG4⟩
    clear hp hcl
    rw [lead_out] at hM4
    obtain ⟨s4, hs4⟩ : ∃ s4, s4 = (s.add [⟨16, t, 0, 0, ((s.code.length + 1 + o.code.length : Nat) : Int)⟩]).out o := ⟨_, rfl⟩
    rw [← hs4] at hM4
    have hV4 : s4.V = o.V := by rw [hs4]; rfl
    have hw4 : s4.words = o.words := by rw [hs4]; rfl
    have hp4 : s4.pats.length = s.pats.length + o.brk.length := by rw [hs4]; simp [GS.out, GS.add]
    have hc4 : s4.code.length = s.code.length + 1 + o.code.length := by rw [hs4, GS.out_len, GS.add_len]; rfl
    have Hs4 := Lib.hid (And.intro hs4 (And.intro hV4 (And.intro hw4 (And.intro hc4 hp4))))
    have H4 := Lib.hid (And.intro hM4 (H3.out.2.1.trans hG4))
    have HB4 : Hid (Below w0.heap.size w0 w4) := H4.out.2.below HB1.out fun k e => Nat.le_trans Hy.out.2.2.2.2.1 (Hmlo.out k e)
    have x124 := (hG4.cell (p := ⟨X, 12, none⟩) HX3.out.2 HX3.out.1).trans x123
    have Ho2 : Hid (o2 = St.gns F x.els o.V o.words (s.code.length + 1 + o.code.length) t []) := by
      show _ = _
      rw [Hy.out.2.2.2.1, Hel.out]; rfl
    clear hM4 hG4 hs4 hV4 hw4 hc4 hp4 x123
    go_wp2_with fail
    have hp := Hy.out.2.1 w4 B m3 F _ s4 t HB4.out Hy.out.2.2.2.2.1 H4.out.1 Ht.out.1 Ht.out.2.2.1 Hl.out.2.1 (by rw [Hs4.out.2.2.2.2]; have := Hl.out.2.2; omega) (by
      rw [Hs4.out.2.1, Hs4.out.2.2.1, Hs4.out.2.2.2.1, ← Ho2.out]; have := Hl.out.1; omega)
    rw [H4.out.2.b, Hs4.out.2.1, Hs4.out.2.2.1, Hs4.out.2.2.2.1, ← Ho2.out] at hp
    refine hp.mono ?_
    rintro E w5 ⟨rfl, m5, hM5, hG5⟩
    clear hp x124
    have H5 := Lib.hid (And.intro hM5 (H4.out.2.trans hG5))
    clear hM5 hG5
    go_wp2_with fail
    refine ⟨_, results_none rfl _ _ _, rfl, m5, ?_, (GStep.of_below m HW.out.2.2).trans H5.out.2⟩
    have h1 := H5.out.1
    have h2 := Ho2.out
    rw [Hel.out] at h2
    rw [Hs4.out.1, fork_none o Hy.out.2.2.1 o2 h2] at h1
    rw [Hel.out] at h1 ⊢
    exact h1
  · have hpos : 0 < ne := by rw [Hy.out.2.2.2.2.2]; exact List.length_pos_iff.2 hel
    have Hel := Lib.hid hel
    clear hel
    go_wp2_with fail
    have hie : x.els.isEmpty = false := by cases hx : x.els with
      | nil => exact absurd hx Hel.out
      | cons y l => rfl
    have Hl2 : Hid (s.code.length + 1 + o.code.length + 1 + o2.code.length ≤ 999999999000) := by have h1 := Hl.out.1; rw [hie] at h1; exact h1
    have Ho2 : Hid (o2 = St.gns F x.els o.V o.words (s.code.length + 1 + o.code.length + 1) t []) := by
      show _ = _
      rw [Hy.out.2.2.2.1, hie]; rfl
    clear hie
    have hp := later_any 14 0 0 ⟨zero12, zero12⟩ w3 B m3 F _ _ H3.out.1 (by rw [GS.out_len, GS.add_len]; simp only [List.length_cons, List.length_nil]; have := Hl2.out; omega)
    rw [H3.out.2.1.b] at hp
    refine hp.mono ?_
    rintro E w4 ⟨fv, rfl, m4, hM4, hG4, bm4, ba4, rfl, hlt⟩
    clear hp
    have HL4 : Hid (Later w4 m4 (laterV bm4 ba4) ((s.add [⟨16, t, 0, 0, 0⟩]).out o).code.length) := ⟨bm4, ba4, rfl, hlt⟩
    unfold laterV
    have x124 := (hG4.cell (p := ⟨X, 12, none⟩) HX3.out.2 HX3.out.1).trans x123
    have HX4 := Lib.hid (And.intro (hG4.block HX3.out.2 HX3.out.1).2 (Nat.lt_of_lt_of_le HX3.out.2 hG4.oth.size))
    have H4 := Lib.hid (And.intro hM4 (And.intro (H3.out.2.1.trans hG4) (H3.out.2.2.step hG4)))
    clear hM4 hG4 hlt x123
    go_wp2_with fail
    have hcl := H4.out.2.2.cells
    have hp := patch_any bm ba s.code.length w4 B m4 F _ _ H4.out.1 (by rw [GS.add_len, GS.out_len, GS.add_len]; simp only [List.length_cons, List.length_nil]; omega) (by rw [GS.add_len, GS.out_len, GS.add_len]; simp only [List.length_cons, List.length_nil]; have := Hl2.out; omega) hcl.1 hcl.2
    refine hp.mono ?_
    rintro E w5 ⟨rfl, hM5, hG5⟩
    clear hp hcl
    rw [lead_out_add] at hM5
    simp only [List.length_cons, List.length_nil, Nat.zero_add] at hM5
    obtain ⟨s4, hs4⟩ : ∃ s4, s4 = (s.add [⟨16, t, 0, 0, ((s.code.length + 1 + o.code.length + 1 : Nat) : Int)⟩]).out o := ⟨_, rfl⟩
    rw [← hs4] at hM5
    have hV4 : s4.V = o.V := by rw [hs4]; rfl
    have hw4 : s4.words = o.words := by rw [hs4]; rfl
    have hp4 : s4.pats.length = s.pats.length + o.brk.length := by rw [hs4]; simp [GS.out, GS.add]
    have hc4 : s4.code.length = s.code.length + 1 + o.code.length := by rw [hs4, GS.out_len, GS.add_len]; rfl
    have hc4' : ((s.add [⟨16, t, 0, 0, 0⟩]).out o).code.length = s4.code.length := by rw [hc4, GS.out_len, GS.add_len]; rfl
    have Hs4 := Lib.hid (And.intro hs4 (And.intro hV4 (And.intro hw4 (And.intro hc4 (And.intro hp4 hc4')))))
    have H5 := Lib.hid (And.intro hM5 (And.intro (H4.out.2.1.trans hG5) (HL4.out.step hG5)))
    have HB5 : Hid (Below w0.heap.size w0 w5) := H5.out.2.1.below HB1.out fun k e => Nat.le_trans Hy.out.2.2.2.2.1 (Hmlo.out k e)
    have x125 := (hG5.cell (p := ⟨X, 12, none⟩) HX4.out.2 HX4.out.1).trans x124
    clear hM5 hG5 hs4 hV4 hw4 hc4 hp4 hc4' x124
    go_wp2_with fail
    have hp := Hy.out.2.1 w5 B m4 F _ _ t HB5.out Hy.out.2.2.2.2.1 H5.out.1 Ht.out.1 Ht.out.2.2.1 Hl.out.2.1 (by show s4.pats.length + _ ≤ _; rw [Hs4.out.2.2.2.2.1]; have := Hl.out.2.2; omega) (by
      rw [GS.add_len, show (s4.add [⟨14, 0, 0, 0, 0⟩]).V = o.V from Hs4.out.2.1, show (s4.add [⟨14, 0, 0, 0, 0⟩]).words = o.words from Hs4.out.2.2.1, Hs4.out.2.2.2.1]
      simp only [List.length_cons, List.length_nil, Nat.zero_add]
      rw [← Ho2.out]; have := Hl2.out; omega)
    rw [H5.out.2.1.b, GS.add_len, show (s4.add [⟨14, 0, 0, 0, 0⟩]).V = o.V from Hs4.out.2.1, show (s4.add [⟨14, 0, 0, 0, 0⟩]).words = o.words from Hs4.out.2.2.1, Hs4.out.2.2.2.1] at hp
    simp only [List.length_cons, List.length_nil, Nat.zero_add] at hp
    rw [← Ho2.out] at hp
    refine hp.mono ?_
    rintro E w6 ⟨rfl, m6, hM6, hG6⟩
    clear hp x125
    have H6 := Lib.hid (And.intro hM6 (And.intro (H5.out.2.1.trans hG6) (H5.out.2.2.step hG6)))
    clear hM6 hG6
    go_wp2_with fail
    have hcl := H6.out.2.2.cells
    rw [Hs4.out.2.2.2.2.2] at hcl
    refine leaves_cons (f := 44) (args := #[.pointer (some ⟨bm4, 0, none⟩), .pointer (some ⟨ba4, 0, none⟩)]) (by simp) (by simp [go_sem]) ?_
    refine (patchD_any .returning bm4 ba4 s4.code.length w6 B m6 F _ _ H6.out.1 (by rw [GS.out_len, GS.add_len]; simp only [List.length_cons, List.length_nil]; omega) (by rw [GS.out_len, GS.add_len, Hs4.out.2.2.2.1]; simp only [List.length_cons, List.length_nil]; have := Hl2.out; omega) hcl.1 hcl.2).mono ?_
    rintro E u' w7 ⟨rfl, rfl, hM7, hG7⟩
    refine ⟨_, results_none rfl _ _ _, rfl, m6, ?_, (GStep.of_below m HW.out.2.2).trans (H6.out.2.1.trans hG7)⟩
    rw [lead_out, Hs4.out.2.2.2.1, Hs4.out.1, fork_else Hel.out o Hy.out.2.2.1 o2 Ho2.out] at hM7
    exact hM7
end Go.Proofs.YtgobcldecokppaaDoor
