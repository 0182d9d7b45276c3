/- gen: a statement that holds no list of statements, and an if. -/
import Derived.Test.YtgobcldecokppaaDoorGnPat
namespace Go.Proofs.YtgobcldecokppaaDoor
open Go.RowKit Go.Maps

theorem St.gn_eq (F : ByteArray → Int) (x : St) (V : GEnv) (wd : Int) (p : Nat) (n : Int) : St.gn F x V wd p n = gnSt V F x.kind x.name x.a x.b (fun V wd p n => St.gns F x.body V wd p n []) (fun V wd p n => St.gns F x.els V wd p n []) x.els.isEmpty (Cs.gns F x.cases) wd p n := by cases x; simp only [St.gn, St.kind, St.name, St.a, St.b, St.body, St.els, St.cases]
theorem gn_plain {F : ByteArray → Int} {x : St} (h3 : x.kind ≠ 3) (h4 : x.kind ≠ 4) (h5 : x.kind ≠ 5) (h6 : x.kind ≠ 6) (h7 : x.kind ≠ 7) (h8 : x.kind ≠ 8) (h9 : x.kind ≠ 9) (s : GS) (t : Int) : s.out (St.gn F x s.V s.words s.code.length t) = s.add (x.a.gn s.V F s.code.length t) := by
  rw [St.gn_eq]; simp [gnSt, h3, h4, h5, h6, h7, h8, h9, GS.out, GS.add]
theorem gn_return {F : ByteArray → Int} {x : St} (hk : x.kind = 9) (s : GS) (t : Int) : s.out (St.gn F x s.V s.words s.code.length t) = s.add (x.a.gn s.V F s.code.length t ++ [⟨0, t, 0, 0, 0⟩]) := by
  rw [St.gn_eq]; simp [gnSt, hk, GS.out, GS.add]
theorem gn_assign {F : ByteArray → Int} {x : St} (hk : x.kind = 3) (s : GS) (t : Int) : s.out (St.gn F x s.V s.words s.code.length t) = s.add (x.a.gn s.V F s.code.length t ++ [⟨2, (s.V x.name).reg, t, 0, 0⟩]) := by
  rw [St.gn_eq]; simp [gnSt, hk, GS.out, GS.add]
theorem gn_store {F : ByteArray → Int} {x : St} (hk : x.kind = 4) (s : GS) (t : Int) : s.out (St.gn F x s.V s.words s.code.length t) =
    s.add (x.a.gn s.V F s.code.length t ++ [⟨13, t, 0, 0, (s.V x.name).size⟩] ++ x.b.gn s.V F (s.code.length + (x.a.gn s.V F s.code.length t).length + 1) (t + 1) ++ [⟨12, t + 1, t, 0, (s.V x.name).off⟩]) := by
  rw [St.gn_eq]; simp [gnSt, hk, GS.out, GS.add]
theorem gn_if {F : ByteArray → Int} {x : St} (hk : x.kind = 5) (s : GS) (t : Int) : s.out (St.gn F x s.V s.words s.code.length t) = forkO F x.body x.els (s.add (x.a.gn s.V F s.code.length t)) t := by
  rw [St.gn_eq]
  unfold forkO
  simp only [gnSt, hk, GS.add_len]
  simp [GS.out, GS.add, regsOf, List.foldl_append]
set_option maxRecDepth 100000 in
set_option maxHeartbeats 8000000 in
theorem gs_plain (x : St) (h3 : x.kind ≠ 3) (h4 : x.kind ≠ 4) (h5 : x.kind ≠ 5) (h6 : x.kind ≠ 6) (h7 : x.kind ≠ 7) (h8 : x.kind ≠ 8) (h9 : x.kind ≠ 9) (hs : x.name.size ≤ 16) (aa ab ad ae ac : Option Addr) (na nb nd ne nc ca cb cd ce cc : Nat) (w0 : World) (ha : GxFor w0 x.a (.slice aa na ca)) :
    GsFor w0 x (stVal x (.slice aa na ca) (.slice ab nb cb) (.slice ad nd cd) (.slice ae ne ce) (.slice ac nc cc)) := by
  intro W B m F N s t hB hwB h ht0 ht hN hP hl
  have hgn := gn_plain (F := F) h3 h4 h5 h6 h7 h8 h9 s t
  rw [← GS.out_len, hgn] at hl
  rw [hgn]
  obtain ⟨X, hX⟩ : ∃ X, X = W.heap.size := ⟨_, rfl⟩
  obtain ⟨W1, hW1⟩ : ∃ W1, W1 = W.alloc (.cells #[.int .i64 x.kind, .string x.name, .int .i64 x.n, .int .i64 x.a.kind, .int .i64 x.a.n, .string x.a.name, .slice aa na ca, .int .i64 x.b.kind, .int .i64 x.b.n, .string x.b.name, .slice ab nb cb, .slice ad nd cd, .slice ae ne ce, .slice ac nc cc] 56) := ⟨_, rfl⟩
  have hb1 : Below W.heap.size W W1 := by rw [hW1]; exact (Below.refl _ _).alloc (Nat.le_refl _) _
  have xa0 : W1.cell? ⟨X, 0, none⟩ = some (.int .i64 x.kind) := by rw [hW1, hX]; exact World.cell?_alloc_at _ _ _ _ rfl
  have xa1 : W1.cell? ⟨X, 1, none⟩ = some (.string x.name) := by rw [hW1, hX]; exact World.cell?_alloc_at _ _ _ _ rfl
  have xa2 : W1.cell? ⟨X, 2, none⟩ = some (.int .i64 x.n) := by rw [hW1, hX]; exact World.cell?_alloc_at _ _ _ _ rfl
  have xa3 : W1.cell? ⟨X, 3, none⟩ = some (.int .i64 x.a.kind) := by rw [hW1, hX]; exact World.cell?_alloc_at _ _ _ _ rfl
  have xa4 : W1.cell? ⟨X, 4, none⟩ = some (.int .i64 x.a.n) := by rw [hW1, hX]; exact World.cell?_alloc_at _ _ _ _ rfl
  have xa5 : W1.cell? ⟨X, 5, none⟩ = some (.string x.a.name) := by rw [hW1, hX]; exact World.cell?_alloc_at _ _ _ _ rfl
  have xa6 : W1.cell? ⟨X, 6, none⟩ = some (.slice aa na ca) := by rw [hW1, hX]; exact World.cell?_alloc_at _ _ _ _ rfl
  have xa7 : W1.cell? ⟨X, 7, none⟩ = some (.int .i64 x.b.kind) := by rw [hW1, hX]; exact World.cell?_alloc_at _ _ _ _ rfl
  have xa8 : W1.cell? ⟨X, 8, none⟩ = some (.int .i64 x.b.n) := by rw [hW1, hX]; exact World.cell?_alloc_at _ _ _ _ rfl
  have xa9 : W1.cell? ⟨X, 9, none⟩ = some (.string x.b.name) := by rw [hW1, hX]; exact World.cell?_alloc_at _ _ _ _ rfl
  have xa10 : W1.cell? ⟨X, 10, none⟩ = some (.slice ab nb cb) := by rw [hW1, hX]; exact World.cell?_alloc_at _ _ _ _ rfl
  have xa11 : W1.cell? ⟨X, 11, none⟩ = some (.slice ad nd cd) := by rw [hW1, hX]; exact World.cell?_alloc_at _ _ _ _ rfl
  have xa12 : W1.cell? ⟨X, 12, none⟩ = some (.slice ae ne ce) := by rw [hW1, hX]; exact World.cell?_alloc_at _ _ _ _ rfl
  have xa13 : W1.cell? ⟨X, 13, none⟩ = some (.slice ac nc cc) := by rw [hW1, hX]; exact World.cell?_alloc_at _ _ _ _ rfl
  have qX := block_lt_of_cell xa0
  have HmT : Hid (¬ m.T X) := fun e => by have := h.inT X e; omega
  have HB1 : Hid (Below w0.heap.size w0 W1) := hB.trans (hb1.mono hB.size)
  have htx := x.total_eq
  have hwt : wrap64 t = t := by unfold wrap64; omega
  have hwt1 : wrap64 (t + 1) = t + 1 := by unfold wrap64; omega
  have hN' : N ≤ N + x.total := Nat.le_add_right _ _
  have H1 := Lib.hid (And.intro (h.later hb1) hN')
  have HW := Lib.hid (And.intro hW1 (And.intro hX hb1))
  have Hmlo := Lib.hid h.low
  have Hw := Lib.hid hwB
  have Hs := Lib.hid hs
  have hpa := x.a.total_part
  have hpb := x.b.total_part
  have Ht := Lib.hid (show 0 ≤ t ∧ t + (x.a.total : Int) ≤ 1000000 ∧ (1 ≤ x.a.part → t + 1 + (x.b.total : Int) ≤ 1000000) ∧ t ≤ 1000000 by omega)
  have qb := h.in
  obtain ⟨L0, hL0⟩ : ∃ L, L = x.a.gn s.V F s.code.length t := ⟨_, rfl⟩
  rw [← hL0] at hl ⊢
  simp only [GS.add_len] at hl
  have Hl := Lib.hid (And.intro hl hL0)
  have Ha := Lib.hid ha
  have q3 : (x.kind == 3) = false := by simp [h3]
  have q4 : (x.kind == 4) = false := by simp [h4]
  have q5 : (x.kind == 5) = false := by simp [h5]
  have q6 : (x.kind == 6) = false := by simp [h6]
  have q7 : (x.kind == 7) = false := by simp [h7]
  have q8 : (x.kind == 8) = false := by simp [h8]
  have q9 : (x.kind == 9) = false := by simp [h9]
  clear hB hwB h ht0 ht hl hX hW1 hb1 htx hs hgn hN hP hN' hpa hpb hL0 ha h3 h4 h5 h6 h7 h8 h9
  unfold stVal
  go_enter Tryd.func23, Tryd.ntmps23
  go_upto_region 1 with (fail)
  rw [← HW.out.1, ← HW.out.2.1]
  go_wp2_with fail
  have hp := Ha.out W1 B m F N s t HB1.out Hw.out H1.out.1 Ht.out.1 Ht.out.2.1 (by rw [← Hl.out.2]; have := Hl.out.1; omega)
  rw [← Hl.out.2] at hp
  unfold exVal at hp
  refine hp.mono ?_
  rintro E w2 ⟨rfl, m2, hM2, hG2⟩
  clear hp
  have xb0 := (hG2.cell (p := ⟨X, 0, none⟩) qX HmT.out).trans xa0
  have xb1 := (hG2.cell (p := ⟨X, 1, none⟩) qX HmT.out).trans xa1
  have xb2 := (hG2.cell (p := ⟨X, 2, none⟩) qX HmT.out).trans xa2
  have xb3 := (hG2.cell (p := ⟨X, 3, none⟩) qX HmT.out).trans xa3
  have xb4 := (hG2.cell (p := ⟨X, 4, none⟩) qX HmT.out).trans xa4
  have xb5 := (hG2.cell (p := ⟨X, 5, none⟩) qX HmT.out).trans xa5
  have xb6 := (hG2.cell (p := ⟨X, 6, none⟩) qX HmT.out).trans xa6
  have xb7 := (hG2.cell (p := ⟨X, 7, none⟩) qX HmT.out).trans xa7
  have xb8 := (hG2.cell (p := ⟨X, 8, none⟩) qX HmT.out).trans xa8
  have xb9 := (hG2.cell (p := ⟨X, 9, none⟩) qX HmT.out).trans xa9
  have xb10 := (hG2.cell (p := ⟨X, 10, none⟩) qX HmT.out).trans xa10
  have xb11 := (hG2.cell (p := ⟨X, 11, none⟩) qX HmT.out).trans xa11
  have xb12 := (hG2.cell (p := ⟨X, 12, none⟩) qX HmT.out).trans xa12
  have xb13 := (hG2.cell (p := ⟨X, 13, none⟩) qX HmT.out).trans xa13
  have HX2 := Lib.hid (And.intro (hG2.block qX HmT.out).2 (Nat.lt_of_lt_of_le qX hG2.oth.size))
  have H2 := Lib.hid (And.intro hM2 hG2)
  clear hM2 hG2 xa0 xa1 xa2 xa3 xa4 xa5 xa6 xa7 xa8 xa9 xa10 xa11 xa12 xa13
  go_wp2_with fail
  refine bodyPost_end (results_none rfl _ _ _) rfl ?_
  exact ⟨rfl, m2, H2.out.1.mono H1.out.2, (GStep.of_below m HW.out.2.2).trans H2.out.2⟩
set_option maxRecDepth 100000 in
set_option maxHeartbeats 8000000 in
theorem gs_return (x : St) (hk : x.kind = 9) (hs : x.name.size ≤ 16) (aa ab ad ae ac : Option Addr) (na nb nd ne nc ca cb cd ce cc : Nat) (w0 : World) (ha : GxFor w0 x.a (.slice aa na ca)) :
    GsFor w0 x (stVal x (.slice aa na ca) (.slice ab nb cb) (.slice ad nd cd) (.slice ae ne ce) (.slice ac nc cc)) := by
  intro W B m F N s t hB hwB h ht0 ht hN hP hl
  have hgn := gn_return (F := F) hk s t
  rw [← GS.out_len, hgn] at hl
  rw [hgn]
  obtain ⟨X, hX⟩ : ∃ X, X = W.heap.size := ⟨_, rfl⟩
  obtain ⟨W1, hW1⟩ : ∃ W1, W1 = W.alloc (.cells #[.int .i64 x.kind, .string x.name, .int .i64 x.n, .int .i64 x.a.kind, .int .i64 x.a.n, .string x.a.name, .slice aa na ca, .int .i64 x.b.kind, .int .i64 x.b.n, .string x.b.name, .slice ab nb cb, .slice ad nd cd, .slice ae ne ce, .slice ac nc cc] 56) := ⟨_, rfl⟩
  have hb1 : Below W.heap.size W W1 := by rw [hW1]; exact (Below.refl _ _).alloc (Nat.le_refl _) _
  have xa0 : W1.cell? ⟨X, 0, none⟩ = some (.int .i64 x.kind) := by rw [hW1, hX]; exact World.cell?_alloc_at _ _ _ _ rfl
  have xa1 : W1.cell? ⟨X, 1, none⟩ = some (.string x.name) := by rw [hW1, hX]; exact World.cell?_alloc_at _ _ _ _ rfl
  have xa2 : W1.cell? ⟨X, 2, none⟩ = some (.int .i64 x.n) := by rw [hW1, hX]; exact World.cell?_alloc_at _ _ _ _ rfl
  have xa3 : W1.cell? ⟨X, 3, none⟩ = some (.int .i64 x.a.kind) := by rw [hW1, hX]; exact World.cell?_alloc_at _ _ _ _ rfl
  have xa4 : W1.cell? ⟨X, 4, none⟩ = some (.int .i64 x.a.n) := by rw [hW1, hX]; exact World.cell?_alloc_at _ _ _ _ rfl
  have xa5 : W1.cell? ⟨X, 5, none⟩ = some (.string x.a.name) := by rw [hW1, hX]; exact World.cell?_alloc_at _ _ _ _ rfl
  have xa6 : W1.cell? ⟨X, 6, none⟩ = some (.slice aa na ca) := by rw [hW1, hX]; exact World.cell?_alloc_at _ _ _ _ rfl
  have xa7 : W1.cell? ⟨X, 7, none⟩ = some (.int .i64 x.b.kind) := by rw [hW1, hX]; exact World.cell?_alloc_at _ _ _ _ rfl
  have xa8 : W1.cell? ⟨X, 8, none⟩ = some (.int .i64 x.b.n) := by rw [hW1, hX]; exact World.cell?_alloc_at _ _ _ _ rfl
  have xa9 : W1.cell? ⟨X, 9, none⟩ = some (.string x.b.name) := by rw [hW1, hX]; exact World.cell?_alloc_at _ _ _ _ rfl
  have xa10 : W1.cell? ⟨X, 10, none⟩ = some (.slice ab nb cb) := by rw [hW1, hX]; exact World.cell?_alloc_at _ _ _ _ rfl
  have xa11 : W1.cell? ⟨X, 11, none⟩ = some (.slice ad nd cd) := by rw [hW1, hX]; exact World.cell?_alloc_at _ _ _ _ rfl
  have xa12 : W1.cell? ⟨X, 12, none⟩ = some (.slice ae ne ce) := by rw [hW1, hX]; exact World.cell?_alloc_at _ _ _ _ rfl
  have xa13 : W1.cell? ⟨X, 13, none⟩ = some (.slice ac nc cc) := by rw [hW1, hX]; exact World.cell?_alloc_at _ _ _ _ rfl
  have qX := block_lt_of_cell xa0
  have HmT : Hid (¬ m.T X) := fun e => by have := h.inT X e; omega
  have HB1 : Hid (Below w0.heap.size w0 W1) := hB.trans (hb1.mono hB.size)
  have htx := x.total_eq
  have hwt : wrap64 t = t := by unfold wrap64; omega
  have hwt1 : wrap64 (t + 1) = t + 1 := by unfold wrap64; omega
  have hN' : N ≤ N + x.total := Nat.le_add_right _ _
  have H1 := Lib.hid (And.intro (h.later hb1) hN')
  have HW := Lib.hid (And.intro hW1 (And.intro hX hb1))
  have Hmlo := Lib.hid h.low
  have Hw := Lib.hid hwB
  have Hs := Lib.hid hs
  have hpa := x.a.total_part
  have hpb := x.b.total_part
  have Ht := Lib.hid (show 0 ≤ t ∧ t + (x.a.total : Int) ≤ 1000000 ∧ (1 ≤ x.a.part → t + 1 + (x.b.total : Int) ≤ 1000000) ∧ t ≤ 1000000 by omega)
  have qb := h.in
  obtain ⟨L0, hL0⟩ : ∃ L, L = x.a.gn s.V F s.code.length t := ⟨_, rfl⟩
  rw [← hL0] at hl ⊢
  simp only [GS.add_len, List.length_append, List.length_cons, List.length_nil] at hl
  have Hl := Lib.hid (And.intro hl hL0)
  have Ha := Lib.hid ha
  have q3 : (x.kind == 3) = false := by simp [hk]
  have q4 : (x.kind == 4) = false := by simp [hk]
  have q5 : (x.kind == 5) = false := by simp [hk]
  have q6 : (x.kind == 6) = false := by simp [hk]
  have q7 : (x.kind == 7) = false := by simp [hk]
  have q8 : (x.kind == 8) = false := by simp [hk]
  have q9 : (x.kind == 9) = true := by simp [hk]
  clear hB hwB h ht0 ht hl hX hW1 hb1 htx hs hgn hN hP hN' hpa hpb hL0 ha hk
  unfold stVal
  go_enter Tryd.func23, Tryd.ntmps23
  go_upto_region 1 with (fail)
  rw [← HW.out.1, ← HW.out.2.1]
  go_wp2_with fail
  have hp := Ha.out W1 B m F N s t HB1.out Hw.out H1.out.1 Ht.out.1 Ht.out.2.1 (by rw [← Hl.out.2]; have := Hl.out.1; omega)
  rw [← Hl.out.2] at hp
  unfold exVal at hp
  refine hp.mono ?_
  rintro E w2 ⟨rfl, m2, hM2, hG2⟩
  clear hp
  have xb0 := (hG2.cell (p := ⟨X, 0, none⟩) qX HmT.out).trans xa0
  have xb1 := (hG2.cell (p := ⟨X, 1, none⟩) qX HmT.out).trans xa1
  have xb2 := (hG2.cell (p := ⟨X, 2, none⟩) qX HmT.out).trans xa2
  have xb3 := (hG2.cell (p := ⟨X, 3, none⟩) qX HmT.out).trans xa3
  have xb4 := (hG2.cell (p := ⟨X, 4, none⟩) qX HmT.out).trans xa4
  have xb5 := (hG2.cell (p := ⟨X, 5, none⟩) qX HmT.out).trans xa5
  have xb6 := (hG2.cell (p := ⟨X, 6, none⟩) qX HmT.out).trans xa6
  have xb7 := (hG2.cell (p := ⟨X, 7, none⟩) qX HmT.out).trans xa7
  have xb8 := (hG2.cell (p := ⟨X, 8, none⟩) qX HmT.out).trans xa8
  have xb9 := (hG2.cell (p := ⟨X, 9, none⟩) qX HmT.out).trans xa9
  have xb10 := (hG2.cell (p := ⟨X, 10, none⟩) qX HmT.out).trans xa10
  have xb11 := (hG2.cell (p := ⟨X, 11, none⟩) qX HmT.out).trans xa11
  have xb12 := (hG2.cell (p := ⟨X, 12, none⟩) qX HmT.out).trans xa12
  have xb13 := (hG2.cell (p := ⟨X, 13, none⟩) qX HmT.out).trans xa13
  have HX2 := Lib.hid (And.intro (hG2.block qX HmT.out).2 (Nat.lt_of_lt_of_le qX hG2.oth.size))
  have H2 := Lib.hid (And.intro hM2 hG2)
  clear hM2 hG2 xa0 xa1 xa2 xa3 xa4 xa5 xa6 xa7 xa8 xa9 xa10 xa11 xa12 xa13
  go_wp2_with fail
  have hp := put_any ⟨0, t, 0, 0, 0⟩ (regs3 (by have := Ht.out; omega) zero12 zero12 _ _) w2 B m2 F N _ H2.out.1 (by rw [GS.add_len]; have := Hl.out.1; omega)
  rw [H2.out.2.b, GS.add_add] at hp
  refine hp.mono ?_
  rintro E w3 ⟨rfl, m3, hM3, hG3⟩
  clear hp
  have H3 := Lib.hid (And.intro hM3 hG3)
  clear hM3 hG3
  go_wp2_with fail
  refine bodyPost_end (results_none rfl _ _ _) rfl ?_
  exact ⟨rfl, m3, H3.out.1.mono H1.out.2, (GStep.of_below m HW.out.2.2).trans (H2.out.2.trans H3.out.2)⟩
set_option maxRecDepth 100000 in
set_option maxHeartbeats 8000000 in
theorem gs_assign (x : St) (hk : x.kind = 3) (hs : x.name.size ≤ 16) (aa ab ad ae ac : Option Addr) (na nb nd ne nc ca cb cd ce cc : Nat) (w0 : World) (ha : GxFor w0 x.a (.slice aa na ca)) :
    GsFor w0 x (stVal x (.slice aa na ca) (.slice ab nb cb) (.slice ad nd cd) (.slice ae ne ce) (.slice ac nc cc)) := by
  intro W B m F N s t hB hwB h ht0 ht hN hP hl
  have hgn := gn_assign (F := F) hk s t
  rw [← GS.out_len, hgn] at hl
  rw [hgn]
  obtain ⟨X, hX⟩ : ∃ X, X = W.heap.size := ⟨_, rfl⟩
  obtain ⟨W1, hW1⟩ : ∃ W1, W1 = W.alloc (.cells #[.int .i64 x.kind, .string x.name, .int .i64 x.n, .int .i64 x.a.kind, .int .i64 x.a.n, .string x.a.name, .slice aa na ca, .int .i64 x.b.kind, .int .i64 x.b.n, .string x.b.name, .slice ab nb cb, .slice ad nd cd, .slice ae ne ce, .slice ac nc cc] 56) := ⟨_, rfl⟩
  have hb1 : Below W.heap.size W W1 := by rw [hW1]; exact (Below.refl _ _).alloc (Nat.le_refl _) _
  have xa0 : W1.cell? ⟨X, 0, none⟩ = some (.int .i64 x.kind) := by rw [hW1, hX]; exact World.cell?_alloc_at _ _ _ _ rfl
  have xa1 : W1.cell? ⟨X, 1, none⟩ = some (.string x.name) := by rw [hW1, hX]; exact World.cell?_alloc_at _ _ _ _ rfl
  have xa2 : W1.cell? ⟨X, 2, none⟩ = some (.int .i64 x.n) := by rw [hW1, hX]; exact World.cell?_alloc_at _ _ _ _ rfl
  have xa3 : W1.cell? ⟨X, 3, none⟩ = some (.int .i64 x.a.kind) := by rw [hW1, hX]; exact World.cell?_alloc_at _ _ _ _ rfl
  have xa4 : W1.cell? ⟨X, 4, none⟩ = some (.int .i64 x.a.n) := by rw [hW1, hX]; exact World.cell?_alloc_at _ _ _ _ rfl
  have xa5 : W1.cell? ⟨X, 5, none⟩ = some (.string x.a.name) := by rw [hW1, hX]; exact World.cell?_alloc_at _ _ _ _ rfl
  have xa6 : W1.cell? ⟨X, 6, none⟩ = some (.slice aa na ca) := by rw [hW1, hX]; exact World.cell?_alloc_at _ _ _ _ rfl
  have xa7 : W1.cell? ⟨X, 7, none⟩ = some (.int .i64 x.b.kind) := by rw [hW1, hX]; exact World.cell?_alloc_at _ _ _ _ rfl
  have xa8 : W1.cell? ⟨X, 8, none⟩ = some (.int .i64 x.b.n) := by rw [hW1, hX]; exact World.cell?_alloc_at _ _ _ _ rfl
  have xa9 : W1.cell? ⟨X, 9, none⟩ = some (.string x.b.name) := by rw [hW1, hX]; exact World.cell?_alloc_at _ _ _ _ rfl
  have xa10 : W1.cell? ⟨X, 10, none⟩ = some (.slice ab nb cb) := by rw [hW1, hX]; exact World.cell?_alloc_at _ _ _ _ rfl
  have xa11 : W1.cell? ⟨X, 11, none⟩ = some (.slice ad nd cd) := by rw [hW1, hX]; exact World.cell?_alloc_at _ _ _ _ rfl
  have xa12 : W1.cell? ⟨X, 12, none⟩ = some (.slice ae ne ce) := by rw [hW1, hX]; exact World.cell?_alloc_at _ _ _ _ rfl
  have xa13 : W1.cell? ⟨X, 13, none⟩ = some (.slice ac nc cc) := by rw [hW1, hX]; exact World.cell?_alloc_at _ _ _ _ rfl
  have qX := block_lt_of_cell xa0
  have HmT : Hid (¬ m.T X) := fun e => by have := h.inT X e; omega
  have HB1 : Hid (Below w0.heap.size w0 W1) := hB.trans (hb1.mono hB.size)
  have htx := x.total_eq
  have hwt : wrap64 t = t := by unfold wrap64; omega
  have hwt1 : wrap64 (t + 1) = t + 1 := by unfold wrap64; omega
  have hN' : N ≤ N + x.total := Nat.le_add_right _ _
  have H1 := Lib.hid (And.intro (h.later hb1) hN')
  have HW := Lib.hid (And.intro hW1 (And.intro hX hb1))
  have Hmlo := Lib.hid h.low
  have Hw := Lib.hid hwB
  have Hs := Lib.hid hs
  have hpa := x.a.total_part
  have hpb := x.b.total_part
  have Ht := Lib.hid (show 0 ≤ t ∧ t + (x.a.total : Int) ≤ 1000000 ∧ (1 ≤ x.a.part → t + 1 + (x.b.total : Int) ≤ 1000000) ∧ t ≤ 1000000 by omega)
  have qb := h.in
  obtain ⟨L0, hL0⟩ : ∃ L, L = x.a.gn s.V F s.code.length t := ⟨_, rfl⟩
  rw [← hL0] at hl ⊢
  simp only [GS.add_len, List.length_append, List.length_cons, List.length_nil] at hl
  have Hl := Lib.hid (And.intro hl hL0)
  have Ha := Lib.hid ha
  have q3 : (x.kind == 3) = true := by simp [hk]
  have q4 : (x.kind == 4) = false := by simp [hk]
  have q5 : (x.kind == 5) = false := by simp [hk]
  have q6 : (x.kind == 6) = false := by simp [hk]
  have q7 : (x.kind == 7) = false := by simp [hk]
  have q8 : (x.kind == 8) = false := by simp [hk]
  have q9 : (x.kind == 9) = false := by simp [hk]
  clear hB hwB h ht0 ht hl hX hW1 hb1 htx hs hgn hN hP hN' hpa hpb hL0 ha hk
  unfold stVal
  go_enter Tryd.func23, Tryd.ntmps23
  go_upto_region 1 with (fail)
  rw [← HW.out.1, ← HW.out.2.1]
  go_wp2_with fail
  have hp := Ha.out W1 B m F N s t HB1.out Hw.out H1.out.1 Ht.out.1 Ht.out.2.1 (by rw [← Hl.out.2]; have := Hl.out.1; omega)
  rw [← Hl.out.2] at hp
  unfold exVal at hp
  refine hp.mono ?_
  rintro E w2 ⟨rfl, m2, hM2, hG2⟩
  clear hp
  have xb0 := (hG2.cell (p := ⟨X, 0, none⟩) qX HmT.out).trans xa0
  have xb1 := (hG2.cell (p := ⟨X, 1, none⟩) qX HmT.out).trans xa1
  have xb2 := (hG2.cell (p := ⟨X, 2, none⟩) qX HmT.out).trans xa2
  have xb3 := (hG2.cell (p := ⟨X, 3, none⟩) qX HmT.out).trans xa3
  have xb4 := (hG2.cell (p := ⟨X, 4, none⟩) qX HmT.out).trans xa4
  have xb5 := (hG2.cell (p := ⟨X, 5, none⟩) qX HmT.out).trans xa5
  have xb6 := (hG2.cell (p := ⟨X, 6, none⟩) qX HmT.out).trans xa6
  have xb7 := (hG2.cell (p := ⟨X, 7, none⟩) qX HmT.out).trans xa7
  have xb8 := (hG2.cell (p := ⟨X, 8, none⟩) qX HmT.out).trans xa8
  have xb9 := (hG2.cell (p := ⟨X, 9, none⟩) qX HmT.out).trans xa9
  have xb10 := (hG2.cell (p := ⟨X, 10, none⟩) qX HmT.out).trans xa10
  have xb11 := (hG2.cell (p := ⟨X, 11, none⟩) qX HmT.out).trans xa11
  have xb12 := (hG2.cell (p := ⟨X, 12, none⟩) qX HmT.out).trans xa12
  have xb13 := (hG2.cell (p := ⟨X, 13, none⟩) qX HmT.out).trans xa13
  have HX2 := Lib.hid (And.intro (hG2.block qX HmT.out).2 (Nat.lt_of_lt_of_le qX hG2.oth.size))
  have H2 := Lib.hid (And.intro hM2 hG2)
  clear hM2 hG2 xa0 xa1 xa2 xa3 xa4 xa5 xa6 xa7 xa8 xa9 xa10 xa11 xa12 xa13
  go_upto_region 9 with (fail)
  obtain ⟨pr, hpr⟩ : ∃ z, z = s.V x.name := ⟨_, rfl⟩
  have hfd := gn_f0 pr.reg pr.off pr.size
  refine wp_region_held (S := fun w => w.cell? ⟨m.b, 2, none⟩ = some (.map (some m2.v)) ∧ w.cell? ⟨X, 1, none⟩ = some (.string x.name) ∧ (Instr.lookup 62 (.map (some m2.v)) (.string x.name) false).run Tryd.prog w = .ok (.agg #[.int .i64 pr.reg, .int .i64 pr.off, .int .i64 pr.size]) w) rfl ?_
  change wpAnyH _ _ _ _ _ _ _ _ w2.drew
  obtain ⟨W0, hW0⟩ : ∃ W0, W0 = w2.drew := ⟨_, rfl⟩
  rw [← hW0]
  have hb0 : Below w2.heap.size w2 W0 := by rw [hW0]; exact (Below.refl _ _).drew
  have HM0 := Lib.hid (H2.out.1.later hb0)
  have hx10 := (hb0.cell (p := ⟨X, 1, none⟩) HX2.out.2).trans xb1
  have Hb : Hid (W0.cell? ⟨m.b, 2, none⟩ = some (.map (some m2.v)) ∧ W0.cell? ⟨X, 1, none⟩ = some (.string x.name) ∧ (Instr.lookup 62 (.map (some m2.v)) (.string x.name) false).run Tryd.prog W0 = .ok (.agg #[.int .i64 pr.reg, .int .i64 pr.off, .int .i64 pr.size]) W0) := ⟨by have h1 := HM0.out.c2; rw [H2.out.2.b] at h1; exact h1, hx10, by rw [hpr]; exact HM0.out.lookV x.name Hs.out⟩
  have Hg0 := Lib.hid (And.intro hb0 (And.intro hx10 hpr))
  clear hb0 hx10 hpr hW0 xb0 xb1 xb2 xb3 xb4 xb5 xb6 xb7 xb8 xb9 xb10 xb11 xb12 xb13
  refine wpAnyH_take (i := 0) (by simp only [List.getElem?_toArray, List.getElem?_cons_zero]; rfl) (by kernel_rfl) (by kernel_rfl) (by kernel_rfl) (by intro _ _ _ h; exact h) (Or.inl ⟨by rfl, fun w hw => by (obtain ⟨k0, k1, k2⟩ := hw; go_simp; try rfl)⟩) Hb.out ?_
  refine wpAnyH_take (i := 1) (by simp only [List.getElem?_toArray, List.getElem?_cons_succ, List.getElem?_cons_zero]; rfl) (by kernel_rfl) (by kernel_rfl) (by kernel_rfl) (by intro _ _ _ h; exact h) (Or.inl ⟨by rfl, fun w hw => by (obtain ⟨k0, k1, k2⟩ := hw; go_simp; try rfl)⟩) Hb.out ?_
  go_frame
  refine wpAnyH_take (i := 2) (by simp only [List.getElem?_toArray, List.getElem?_cons_succ, List.getElem?_cons_zero]; rfl) (by kernel_rfl) (by kernel_rfl) (by kernel_rfl) (by intro _ _ _ h; exact h) (Or.inl ⟨by rfl, fun w hw => by (obtain ⟨k0, k1, k2⟩ := hw; go_simp; try rfl)⟩) Hb.out ?_
  refine wpAnyH_take (i := 3) (by simp only [List.getElem?_toArray, List.getElem?_cons_succ, List.getElem?_cons_zero]; rfl) (by kernel_rfl) (by kernel_rfl) (by kernel_rfl) (by intro _ _ _ h; exact h) (Or.inl ⟨by rfl, fun w hw => by (obtain ⟨k0, k1, k2⟩ := hw; go_simp; try rfl)⟩) Hb.out ?_
  go_frame
  refine wpAnyH_take (i := 4) (by simp only [List.getElem?_toArray, List.getElem?_cons_succ, List.getElem?_cons_zero]; rfl) (by kernel_rfl) (by kernel_rfl) (by kernel_rfl) (by intro _ _ _ h; exact h) (Or.inl ⟨by rfl, fun w hw => by (obtain ⟨k0, k1, k2⟩ := hw; go_simp; try rfl)⟩) Hb.out ?_
  refine wpAnyH_take (i := 5) (by simp only [List.getElem?_toArray, List.getElem?_cons_succ, List.getElem?_cons_zero]; rfl) (by kernel_rfl) (by kernel_rfl) (by kernel_rfl) (by intro _ _ _ h; exact h) (Or.inl ⟨by rfl, fun w hw => by (obtain ⟨k0, k1, k2⟩ := hw; go_simp; try rfl)⟩) Hb.out ?_
  go_frame
  refine wpAnyH_take (i := 6) (by simp only [List.getElem?_toArray, List.getElem?_cons_succ, List.getElem?_cons_zero]; rfl) (by kernel_rfl) (by kernel_rfl) (by kernel_rfl) (by intro _ _ _ h; exact h) (Or.inl ⟨by rfl, fun w hw => by (obtain ⟨k0, k1, k2⟩ := hw; go_simp; try rfl)⟩) Hb.out ?_
  refine wpAnyH_take (i := 7) (by simp only [List.getElem?_toArray, List.getElem?_cons_succ, List.getElem?_cons_zero]; rfl) (by kernel_rfl) (by kernel_rfl) (by kernel_rfl) (by intro _ _ _ h; exact h) (Or.inl ⟨by rfl, fun w hw => by (obtain ⟨k0, k1, k2⟩ := hw; go_simp; try rfl)⟩) Hb.out ?_
  go_frame
  refine wpAnyH_take (i := 8) (by simp only [List.getElem?_toArray, List.getElem?_cons_succ, List.getElem?_cons_zero]; rfl) (by kernel_rfl) (by kernel_rfl) (by kernel_rfl) (by intro _ _ _ h; exact h) (Or.inl ⟨by rfl, fun w hw => by (obtain ⟨k0, k1, k2⟩ := hw; go_simp; try rfl)⟩) Hb.out ?_
  refine wpAnyH_take (i := 9) (by simp only [List.getElem?_toArray, List.getElem?_cons_succ, List.getElem?_cons_zero]; rfl) (by kernel_rfl) (by kernel_rfl) (by kernel_rfl) (by intro _ _ _ h; exact h) (Or.inl ⟨by rfl, fun w hw => by (obtain ⟨k0, k1, k2⟩ := hw; go_simp; try rfl)⟩) Hb.out ?_
  go_frame
  refine wpAnyH_take (i := 10) (by simp only [List.getElem?_toArray, List.getElem?_cons_succ, List.getElem?_cons_zero]; rfl) (by kernel_rfl) (by kernel_rfl) (by kernel_rfl) (by intro _ _ _ h; exact h) (Or.inl ⟨by rfl, fun w hw => by (obtain ⟨k0, k1, k2⟩ := hw; go_simp; try rfl)⟩) Hb.out ?_
  go_frame
  refine wpAnyH_ready (rs := [11]) (by kernel_rfl) (by simp) ?_
  refine AllReadyH.cons rfl (fun K hK => ?_) AllReadyH.nil
  go_simp
  have hp := put_any ⟨2, pr.reg, t, 0, 0⟩ (regs3 (by rw [Hg0.out.2.2]; exact HM0.out.vreg _) (by have := Ht.out; omega) zero12 _ _) W0 B m2 F N _ HM0.out (by rw [GS.add_len]; have := Hl.out.1; omega)
  rw [H2.out.2.b, GS.add_add] at hp
  refine hp.mono ?_
  rintro E w3 ⟨rfl, m3, hM3, hG3⟩
  clear hp
  have hx13 := (hG3.cell (p := ⟨X, 1, none⟩) (Nat.lt_of_lt_of_le HX2.out.2 Hg0.out.1.size) HX2.out.1).trans Hg0.out.2.1
  have HS3 : Hid (w3.cell? ⟨m.b, 2, none⟩ = some (.map (some m2.v)) ∧ w3.cell? ⟨X, 1, none⟩ = some (.string x.name) ∧ (Instr.lookup 62 (.map (some m2.v)) (.string x.name) false).run Tryd.prog w3 = .ok (.agg #[.int .i64 pr.reg, .int .i64 pr.off, .int .i64 pr.size]) w3) :=
    ⟨by have h1 := hM3.c2; rw [hG3.b, hG3.v, H2.out.2.b] at h1; exact h1, hx13, by have h1 := hM3.lookV x.name Hs.out; rw [hG3.v] at h1; rw [Hg0.out.2.2]; exact h1⟩
  have H3 := Lib.hid (And.intro hM3 hG3)
  clear hM3 hG3 hx13
  refine hK.out _ _ HS3.out (fun _ => ?_)
  clear hK K
  try go_frame
  refine wpAnyH_done (by kernel_rfl) ?_ _
  go_wp2_with fail
  refine bodyPost_end (results_none rfl _ _ _) rfl ?_
  exact ⟨rfl, m3, by rw [← Hg0.out.2.2]; exact H3.out.1.mono H1.out.2, (GStep.of_below m HW.out.2.2).trans (H2.out.2.trans ((GStep.of_below m2 Hg0.out.1).trans H3.out.2))⟩
set_option maxRecDepth 100000 in
set_option maxHeartbeats 8000000 in
theorem gs_store (x : St) (hk : x.kind = 4) (hs : x.name.size ≤ 16) (aa ab ad ae ac : Option Addr) (na nb nd ne nc ca cb cd ce cc : Nat) (w0 : World) (hz : 1 ≤ x.a.part) (ha : GxFor w0 x.a (.slice aa na ca)) (hb : GxFor w0 x.b (.slice ab nb cb)) :
    GsFor w0 x (stVal x (.slice aa na ca) (.slice ab nb cb) (.slice ad nd cd) (.slice ae ne ce) (.slice ac nc cc)) := by
  intro W B m F N s t hB hwB h ht0 ht hN hP hl
  have hgn := gn_store (F := F) hk s t
  rw [← GS.out_len, hgn] at hl
  rw [hgn]
  obtain ⟨X, hX⟩ : ∃ X, X = W.heap.size := ⟨_, rfl⟩
  obtain ⟨W1, hW1⟩ : ∃ W1, W1 = W.alloc (.cells #[.int .i64 x.kind, .string x.name, .int .i64 x.n, .int .i64 x.a.kind, .int .i64 x.a.n, .string x.a.name, .slice aa na ca, .int .i64 x.b.kind, .int .i64 x.b.n, .string x.b.name, .slice ab nb cb, .slice ad nd cd, .slice ae ne ce, .slice ac nc cc] 56) := ⟨_, rfl⟩
  have hb1 : Below W.heap.size W W1 := by rw [hW1]; exact (Below.refl _ _).alloc (Nat.le_refl _) _
  have xa0 : W1.cell? ⟨X, 0, none⟩ = some (.int .i64 x.kind) := by rw [hW1, hX]; exact World.cell?_alloc_at _ _ _ _ rfl
  have xa1 : W1.cell? ⟨X, 1, none⟩ = some (.string x.name) := by rw [hW1, hX]; exact World.cell?_alloc_at _ _ _ _ rfl
  have xa2 : W1.cell? ⟨X, 2, none⟩ = some (.int .i64 x.n) := by rw [hW1, hX]; exact World.cell?_alloc_at _ _ _ _ rfl
  have xa3 : W1.cell? ⟨X, 3, none⟩ = some (.int .i64 x.a.kind) := by rw [hW1, hX]; exact World.cell?_alloc_at _ _ _ _ rfl
  have xa4 : W1.cell? ⟨X, 4, none⟩ = some (.int .i64 x.a.n) := by rw [hW1, hX]; exact World.cell?_alloc_at _ _ _ _ rfl
  have xa5 : W1.cell? ⟨X, 5, none⟩ = some (.string x.a.name) := by rw [hW1, hX]; exact World.cell?_alloc_at _ _ _ _ rfl
  have xa6 : W1.cell? ⟨X, 6, none⟩ = some (.slice aa na ca) := by rw [hW1, hX]; exact World.cell?_alloc_at _ _ _ _ rfl
  have xa7 : W1.cell? ⟨X, 7, none⟩ = some (.int .i64 x.b.kind) := by rw [hW1, hX]; exact World.cell?_alloc_at _ _ _ _ rfl
  have xa8 : W1.cell? ⟨X, 8, none⟩ = some (.int .i64 x.b.n) := by rw [hW1, hX]; exact World.cell?_alloc_at _ _ _ _ rfl
  have xa9 : W1.cell? ⟨X, 9, none⟩ = some (.string x.b.name) := by rw [hW1, hX]; exact World.cell?_alloc_at _ _ _ _ rfl
  have xa10 : W1.cell? ⟨X, 10, none⟩ = some (.slice ab nb cb) := by rw [hW1, hX]; exact World.cell?_alloc_at _ _ _ _ rfl
  have xa11 : W1.cell? ⟨X, 11, none⟩ = some (.slice ad nd cd) := by rw [hW1, hX]; exact World.cell?_alloc_at _ _ _ _ rfl
  have xa12 : W1.cell? ⟨X, 12, none⟩ = some (.slice ae ne ce) := by rw [hW1, hX]; exact World.cell?_alloc_at _ _ _ _ rfl
  have xa13 : W1.cell? ⟨X, 13, none⟩ = some (.slice ac nc cc) := by rw [hW1, hX]; exact World.cell?_alloc_at _ _ _ _ rfl
  have qX := block_lt_of_cell xa0
  have HmT : Hid (¬ m.T X) := fun e => by have := h.inT X e; omega
  have HB1 : Hid (Below w0.heap.size w0 W1) := hB.trans (hb1.mono hB.size)
  have htx := x.total_eq
  have hwt : wrap64 t = t := by unfold wrap64; omega
  have hwt1 : wrap64 (t + 1) = t + 1 := by unfold wrap64; omega
  have hN' : N ≤ N + x.total := Nat.le_add_right _ _
  have H1 := Lib.hid (And.intro (h.later hb1) hN')
  have HW := Lib.hid (And.intro hW1 (And.intro hX hb1))
  have Hmlo := Lib.hid h.low
  have Hw := Lib.hid hwB
  have Hs := Lib.hid hs
  have hpa := x.a.total_part
  have hpb := x.b.total_part
  have Ht := Lib.hid (show 0 ≤ t ∧ t + (x.a.total : Int) ≤ 1000000 ∧ (1 ≤ x.a.part → t + 1 + (x.b.total : Int) ≤ 1000000) ∧ t ≤ 1000000 by omega)
  have qb := h.in
  obtain ⟨L0, hL0⟩ : ∃ L, L = x.a.gn s.V F s.code.length t := ⟨_, rfl⟩
  rw [← hL0] at hl ⊢
  obtain ⟨L1, hL1⟩ : ∃ L, L = x.b.gn s.V F (s.code.length + L0.length + 1) (t + 1) := ⟨_, rfl⟩
  rw [← hL1] at hl ⊢
  simp only [GS.add_len, List.length_append, List.length_cons, List.length_nil] at hl
  have Hl := Lib.hid (And.intro hl hL0)
  have HL1 := Lib.hid (And.intro hL1 hz)
  have Ha := Lib.hid ha
  have Hbx := Lib.hid hb
  have q3 : (x.kind == 3) = false := by simp [hk]
  have q4 : (x.kind == 4) = true := by simp [hk]
  have q5 : (x.kind == 5) = false := by simp [hk]
  have q6 : (x.kind == 6) = false := by simp [hk]
  have q7 : (x.kind == 7) = false := by simp [hk]
  have q8 : (x.kind == 8) = false := by simp [hk]
  have q9 : (x.kind == 9) = false := by simp [hk]
  clear hB hwB h ht0 ht hl hX hW1 hb1 htx hs hgn hN hP hN' hpa hpb hL0 hL1 hz ha hb hk
  unfold stVal
  go_enter Tryd.func23, Tryd.ntmps23
  go_upto_region 1 with (fail)
  rw [← HW.out.1, ← HW.out.2.1]
  go_wp2_with fail
  have hp := Ha.out W1 B m F N s t HB1.out Hw.out H1.out.1 Ht.out.1 Ht.out.2.1 (by rw [← Hl.out.2]; have := Hl.out.1; omega)
  rw [← Hl.out.2] at hp
  unfold exVal at hp
  refine hp.mono ?_
  rintro E w2 ⟨rfl, m2, hM2, hG2⟩
  clear hp
  have xb0 := (hG2.cell (p := ⟨X, 0, none⟩) qX HmT.out).trans xa0
  have xb1 := (hG2.cell (p := ⟨X, 1, none⟩) qX HmT.out).trans xa1
  have xb2 := (hG2.cell (p := ⟨X, 2, none⟩) qX HmT.out).trans xa2
  have xb3 := (hG2.cell (p := ⟨X, 3, none⟩) qX HmT.out).trans xa3
  have xb4 := (hG2.cell (p := ⟨X, 4, none⟩) qX HmT.out).trans xa4
  have xb5 := (hG2.cell (p := ⟨X, 5, none⟩) qX HmT.out).trans xa5
  have xb6 := (hG2.cell (p := ⟨X, 6, none⟩) qX HmT.out).trans xa6
  have xb7 := (hG2.cell (p := ⟨X, 7, none⟩) qX HmT.out).trans xa7
  have xb8 := (hG2.cell (p := ⟨X, 8, none⟩) qX HmT.out).trans xa8
  have xb9 := (hG2.cell (p := ⟨X, 9, none⟩) qX HmT.out).trans xa9
  have xb10 := (hG2.cell (p := ⟨X, 10, none⟩) qX HmT.out).trans xa10
  have xb11 := (hG2.cell (p := ⟨X, 11, none⟩) qX HmT.out).trans xa11
  have xb12 := (hG2.cell (p := ⟨X, 12, none⟩) qX HmT.out).trans xa12
  have xb13 := (hG2.cell (p := ⟨X, 13, none⟩) qX HmT.out).trans xa13
  have HX2 := Lib.hid (And.intro (hG2.block qX HmT.out).2 (Nat.lt_of_lt_of_le qX hG2.oth.size))
  have H2 := Lib.hid (And.intro hM2 hG2)
  clear hM2 hG2 xa0 xa1 xa2 xa3 xa4 xa5 xa6 xa7 xa8 xa9 xa10 xa11 xa12 xa13
  go_upto_region 11 with (fail)
  obtain ⟨pr, hpr⟩ : ∃ z, z = s.V x.name := ⟨_, rfl⟩
  refine wp_region_heldZ (S := fun w => w.cell? ⟨m.b, 2, none⟩ = some (.map (some m2.v)) ∧ w.cell? ⟨X, 1, none⟩ = some (.string x.name) ∧ (Instr.lookup 62 (.map (some m2.v)) (.string x.name) false).run Tryd.prog w = .ok (.agg #[.int .i64 pr.reg, .int .i64 pr.off, .int .i64 pr.size]) w) (z := 8) rfl ?_
  change wpAnyZ _ _ _ _ _ _ _ _ _ w2.drew
  obtain ⟨W0, hW0⟩ : ∃ W0, W0 = w2.drew := ⟨_, rfl⟩
  rw [← hW0]
  have hb0 : Below w2.heap.size w2 W0 := by rw [hW0]; exact (Below.refl _ _).drew
  have HM0 := Lib.hid (H2.out.1.later hb0)
  have hx10 := (hb0.cell (p := ⟨X, 1, none⟩) HX2.out.2).trans xb1
  have Hb : Hid (W0.cell? ⟨m.b, 2, none⟩ = some (.map (some m2.v)) ∧ W0.cell? ⟨X, 1, none⟩ = some (.string x.name) ∧ (Instr.lookup 62 (.map (some m2.v)) (.string x.name) false).run Tryd.prog W0 = .ok (.agg #[.int .i64 pr.reg, .int .i64 pr.off, .int .i64 pr.size]) W0) := ⟨by have h1 := HM0.out.c2; rw [H2.out.2.b] at h1; exact h1, hx10, by rw [hpr]; exact HM0.out.lookV x.name Hs.out⟩
  have Hg0 := Lib.hid (And.intro hb0 (And.intro hx10 hpr))
  obtain ⟨W8, hW8⟩ : ∃ W8, W8 = W0.alloc (.cells #[.int .i64 pr.reg, .int .i64 pr.off, .int .i64 pr.size] 67) := ⟨_, rfl⟩
  obtain ⟨Y, hY⟩ : ∃ Y, Y = W0.heap.size := ⟨_, rfl⟩
  have hb8 : Below W0.heap.size W0 W8 := by rw [hW8]; exact (Below.refl _ _).alloc (Nat.le_refl _) _
  have y1' : W8.cell? ⟨Y, 1, none⟩ = some (.int .i64 pr.off) := by rw [hW8, hY]; exact World.cell?_alloc_at _ _ _ _ rfl
  have y2' : W8.cell? ⟨Y, 2, none⟩ = some (.int .i64 pr.size) := by rw [hW8, hY]; exact World.cell?_alloc_at _ _ _ _ rfl
  have hb28 : Below w2.heap.size w2 W8 := hb0.trans (hb8.mono hb0.size)
  have xc7 := (hb28.cell (p := ⟨X, 7, none⟩) HX2.out.2).trans xb7
  have xc8 := (hb28.cell (p := ⟨X, 8, none⟩) HX2.out.2).trans xb8
  have xc9 := (hb28.cell (p := ⟨X, 9, none⟩) HX2.out.2).trans xb9
  have xc10 := (hb28.cell (p := ⟨X, 10, none⟩) HX2.out.2).trans xb10
  have HYT : Hid (¬ m2.T Y) := fun e => by have := HM0.out.inT Y e; omega
  have H8 := Lib.hid (And.intro (H2.out.1.later hb28) (And.intro (H2.out.2.trans (.of_below m2 hb28)) (And.intro hW8 hY)))
  have HX8 := Lib.hid (Nat.lt_of_lt_of_le HX2.out.2 hb28.size)
  have HB8 : Hid (Below w0.heap.size w0 W8) := H8.out.2.1.below HB1.out fun k e => Nat.le_trans Hw.out (Hmlo.out k e)
  have qY := block_lt_of_cell y1'
  clear hb0 hx10 hpr hW0 xb0 xb1 xb2 xb3 xb4 xb5 xb6 xb7 xb8 xb9 xb10 xb11 xb12 xb13 hb8 hb28 hW8 hY
  refine wpAnyZ_take (i := 0) (by simp only [List.getElem?_toArray, List.getElem?_cons_zero]; rfl) (by kernel_rfl) (by kernel_rfl) (by kernel_rfl) (by kernel_rfl) (by intro _ _ _ h; exact h) (Or.inl ⟨by rfl, fun w hw => by (obtain ⟨k0, k1, k2⟩ := hw; go_simp; try rfl)⟩) Hb.out ?_
  refine wpAnyZ_take (i := 1) (by simp only [List.getElem?_toArray, List.getElem?_cons_succ, List.getElem?_cons_zero]; rfl) (by kernel_rfl) (by kernel_rfl) (by kernel_rfl) (by kernel_rfl) (by intro _ _ _ h; exact h) (Or.inl ⟨by rfl, fun w hw => by (obtain ⟨k0, k1, k2⟩ := hw; go_simp; try rfl)⟩) Hb.out ?_
  go_frame
  refine wpAnyZ_take (i := 2) (by simp only [List.getElem?_toArray, List.getElem?_cons_succ, List.getElem?_cons_zero]; rfl) (by kernel_rfl) (by kernel_rfl) (by kernel_rfl) (by kernel_rfl) (by intro _ _ _ h; exact h) (Or.inl ⟨by rfl, fun w hw => by (obtain ⟨k0, k1, k2⟩ := hw; go_simp; try rfl)⟩) Hb.out ?_
  refine wpAnyZ_take (i := 3) (by simp only [List.getElem?_toArray, List.getElem?_cons_succ, List.getElem?_cons_zero]; rfl) (by kernel_rfl) (by kernel_rfl) (by kernel_rfl) (by kernel_rfl) (by intro _ _ _ h; exact h) (Or.inl ⟨by rfl, fun w hw => by (obtain ⟨k0, k1, k2⟩ := hw; go_simp; try rfl)⟩) Hb.out ?_
  go_frame
  refine wpAnyZ_take (i := 4) (by simp only [List.getElem?_toArray, List.getElem?_cons_succ, List.getElem?_cons_zero]; rfl) (by kernel_rfl) (by kernel_rfl) (by kernel_rfl) (by kernel_rfl) (by intro _ _ _ h; exact h) (Or.inl ⟨by rfl, fun w hw => by (obtain ⟨k0, k1, k2⟩ := hw; go_simp; try rfl)⟩) Hb.out ?_
  refine wpAnyZ_take (i := 5) (by simp only [List.getElem?_toArray, List.getElem?_cons_succ, List.getElem?_cons_zero]; rfl) (by kernel_rfl) (by kernel_rfl) (by kernel_rfl) (by kernel_rfl) (by intro _ _ _ h; exact h) (Or.inl ⟨by rfl, fun w hw => by (obtain ⟨k0, k1, k2⟩ := hw; go_simp; try rfl)⟩) Hb.out ?_
  go_frame
  refine wpAnyZ_take (i := 6) (by simp only [List.getElem?_toArray, List.getElem?_cons_succ, List.getElem?_cons_zero]; rfl) (by kernel_rfl) (by kernel_rfl) (by kernel_rfl) (by kernel_rfl) (by intro _ _ _ h; exact h) (Or.inl ⟨by rfl, fun w hw => by (obtain ⟨k0, k1, k2⟩ := hw; go_simp; try rfl)⟩) Hb.out ?_
  go_frame
  refine wpAnyZ_next (i := 7) (by kernel_rfl) (by simp only [List.getElem?_toArray, List.getElem?_cons_succ, List.getElem?_cons_zero]; rfl) (fun Kc hKc => ?_)
  go_simp
  obtain ⟨Wa, hWa⟩ : ∃ Wa : World, Wa = W0.alloc (.cells #[.int .i64 0, .int .i64 0, .int .i64 0] 67) := ⟨_, rfl⟩
  have ha : Below W0.heap.size W0 Wa := by rw [hWa]; exact (Below.refl _ _).alloc (Nat.le_refl _) _
  have hMa := HM0.out.later ha
  have HSa : Hid (Wa.cell? ⟨m.b, 2, none⟩ = some (.map (some m2.v)) ∧ Wa.cell? ⟨X, 1, none⟩ = some (.string x.name) ∧ (Instr.lookup 62 (.map (some m2.v)) (.string x.name) false).run Tryd.prog Wa = .ok (.agg #[.int .i64 pr.reg, .int .i64 pr.off, .int .i64 pr.size]) Wa) :=
    ⟨by have h1 := hMa.c2; rw [H2.out.2.b] at h1; exact h1, (ha.cell (p := ⟨X, 1, none⟩) (Nat.lt_of_lt_of_le HX2.out.2 Hg0.out.1.size)).trans Hg0.out.2.1, by rw [Hg0.out.2.2]; exact hMa.lookV x.name Hs.out⟩
  refine hKc.out _ _ (fun _ => by rw [← hWa]; exact HSa.out) ?_
  clear hKc Kc ha hMa HSa hWa
  try go_frame
  refine wpAnyZ_next (i := 8) (by kernel_rfl) (by simp only [List.getElem?_toArray, List.getElem?_cons_succ, List.getElem?_cons_zero]; rfl) (fun Kc hKc => ?_)
  go_simp
  rw [← H8.out.2.2.2, ← H8.out.2.2.1]
  refine hKc.out _ _ (fun h => absurd rfl h) ?_
  clear hKc Kc
  refine wpAnyZ_done (by kernel_rfl) ?_ _
  go_wp2_with fail
  have hp := put_any ⟨13, t, 0, 0, pr.size⟩ (regs3 (by have := Ht.out; omega) zero12 zero12 _ _) W8 B m2 F N _ H8.out.1 (by rw [GS.add_len]; have := Hl.out.1; omega)
  rw [H2.out.2.b, GS.add_add] at hp
  refine hp.mono ?_
  rintro E w3 ⟨rfl, m3, hM3, hG3⟩
  clear hp
  have y13 := (hG3.cell (p := ⟨Y, 1, none⟩) qY HYT.out).trans y1'
  have HY3 := Lib.hid (And.intro (hG3.block qY HYT.out).2 (Nat.lt_of_lt_of_le qY hG3.oth.size))
  have xd7 := (hG3.cell (p := ⟨X, 7, none⟩) HX8.out HX2.out.1).trans xc7
  have xd8 := (hG3.cell (p := ⟨X, 8, none⟩) HX8.out HX2.out.1).trans xc8
  have xd9 := (hG3.cell (p := ⟨X, 9, none⟩) HX8.out HX2.out.1).trans xc9
  have xd10 := (hG3.cell (p := ⟨X, 10, none⟩) HX8.out HX2.out.1).trans xc10
  have H3 := Lib.hid (And.intro hM3 (H8.out.2.1.trans hG3))
  have HB3 : Hid (Below w0.heap.size w0 w3) := H3.out.2.below HB1.out fun k e => Nat.le_trans Hw.out (Hmlo.out k e)
  clear hM3 hG3 y1' y2' xc7 xc8 xc9 xc10
  go_wp2_with fail
  have hp := Hbx.out w3 B m3 F N _ (t + 1) HB3.out Hw.out H3.out.1 (by have := Ht.out; omega) (Ht.out.2.2.1 HL1.out.2) (by
    rw [GS.add_len, show (s.add (L0 ++ [⟨13, t, 0, 0, pr.size⟩])).V = s.V from rfl]
    simp only [List.length_append, List.length_cons, List.length_nil, ← Nat.add_assoc, Nat.zero_add]
    rw [← HL1.out.1]; have := Hl.out.1; omega)
  rw [H3.out.2.b, GS.add_len, show (s.add (L0 ++ [⟨13, t, 0, 0, pr.size⟩])).V = s.V from rfl] at hp
  simp only [List.length_append, List.length_cons, List.length_nil, ← Nat.add_assoc, Nat.zero_add] at hp
  rw [← HL1.out.1, GS.add_add] at hp
  unfold exVal at hp
  refine hp.mono ?_
  rintro E w4 ⟨rfl, m4, hM4, hG4⟩
  clear hp xd7 xd8 xd9 xd10
  have y14 := (hG4.cell (p := ⟨Y, 1, none⟩) HY3.out.2 HY3.out.1).trans y13
  have H4 := Lib.hid (And.intro hM4 (H3.out.2.trans hG4))
  clear hM4 hG4 y13
  go_wp2_with fail
  have hp := put_any ⟨12, t + 1, t, 0, pr.off⟩ (regs3 (by have := Ht.out; omega) (by have := Ht.out; omega) zero12 _ _) w4 B m4 F N _ H4.out.1 (by rw [GS.add_len, List.length_append, List.length_append]; simp only [List.length_cons, List.length_nil]; have := Hl.out.1; omega)
  rw [H4.out.2.b, GS.add_add] at hp
  refine hp.mono ?_
  rintro E w5 ⟨rfl, m5, hM5, hG5⟩
  clear hp y14
  have H5 := Lib.hid (And.intro hM5 (H4.out.2.trans hG5))
  clear hM5 hG5
  go_wp2_with fail
  refine bodyPost_end (results_none rfl _ _ _) rfl ?_
  exact ⟨rfl, m5, by rw [← Hg0.out.2.2]; exact H5.out.1.mono H1.out.2, (GStep.of_below m HW.out.2.2).trans H5.out.2⟩
set_option maxRecDepth 100000 in
set_option maxHeartbeats 8000000 in
theorem gs_if (x : St) (hk : x.kind = 5) (hs : x.name.size ≤ 16) (aa ab ad ae ac : Option Addr) (na nb nd ne nc ca cb cd ce cc : Nat) (w0 : World) (hne : ne = x.els.length) (ha : GxFor w0 x.a (.slice aa na ca)) (hd : GlFor w0 x.body (.slice ad nd cd)) (he : GlFor w0 x.els (.slice ae ne ce)) :
    GsFor w0 x (stVal x (.slice aa na ca) (.slice ab nb cb) (.slice ad nd cd) (.slice ae ne ce) (.slice ac nc cc)) := by
  intro W B m F N s t hB hwB h ht0 ht hN hP hl
  have hgn := gn_if (F := F) hk s t
  rw [← GS.out_len, hgn] at hl
  rw [hgn]
  obtain ⟨X, hX⟩ : ∃ X, X = W.heap.size := ⟨_, rfl⟩
  obtain ⟨W1, hW1⟩ : ∃ W1, W1 = W.alloc (.cells #[.int .i64 x.kind, .string x.name, .int .i64 x.n, .int .i64 x.a.kind, .int .i64 x.a.n, .string x.a.name, .slice aa na ca, .int .i64 x.b.kind, .int .i64 x.b.n, .string x.b.name, .slice ab nb cb, .slice ad nd cd, .slice ae ne ce, .slice ac nc cc] 56) := ⟨_, rfl⟩
  have hb1 : Below W.heap.size W W1 := by rw [hW1]; exact (Below.refl _ _).alloc (Nat.le_refl _) _
  have xa0 : W1.cell? ⟨X, 0, none⟩ = some (.int .i64 x.kind) := by rw [hW1, hX]; exact World.cell?_alloc_at _ _ _ _ rfl
  have xa1 : W1.cell? ⟨X, 1, none⟩ = some (.string x.name) := by rw [hW1, hX]; exact World.cell?_alloc_at _ _ _ _ rfl
  have xa2 : W1.cell? ⟨X, 2, none⟩ = some (.int .i64 x.n) := by rw [hW1, hX]; exact World.cell?_alloc_at _ _ _ _ rfl
  have xa3 : W1.cell? ⟨X, 3, none⟩ = some (.int .i64 x.a.kind) := by rw [hW1, hX]; exact World.cell?_alloc_at _ _ _ _ rfl
  have xa4 : W1.cell? ⟨X, 4, none⟩ = some (.int .i64 x.a.n) := by rw [hW1, hX]; exact World.cell?_alloc_at _ _ _ _ rfl
  have xa5 : W1.cell? ⟨X, 5, none⟩ = some (.string x.a.name) := by rw [hW1, hX]; exact World.cell?_alloc_at _ _ _ _ rfl
  have xa6 : W1.cell? ⟨X, 6, none⟩ = some (.slice aa na ca) := by rw [hW1, hX]; exact World.cell?_alloc_at _ _ _ _ rfl
  have xa7 : W1.cell? ⟨X, 7, none⟩ = some (.int .i64 x.b.kind) := by rw [hW1, hX]; exact World.cell?_alloc_at _ _ _ _ rfl
  have xa8 : W1.cell? ⟨X, 8, none⟩ = some (.int .i64 x.b.n) := by rw [hW1, hX]; exact World.cell?_alloc_at _ _ _ _ rfl
  have xa9 : W1.cell? ⟨X, 9, none⟩ = some (.string x.b.name) := by rw [hW1, hX]; exact World.cell?_alloc_at _ _ _ _ rfl
  have xa10 : W1.cell? ⟨X, 10, none⟩ = some (.slice ab nb cb) := by rw [hW1, hX]; exact World.cell?_alloc_at _ _ _ _ rfl
  have xa11 : W1.cell? ⟨X, 11, none⟩ = some (.slice ad nd cd) := by rw [hW1, hX]; exact World.cell?_alloc_at _ _ _ _ rfl
  have xa12 : W1.cell? ⟨X, 12, none⟩ = some (.slice ae ne ce) := by rw [hW1, hX]; exact World.cell?_alloc_at _ _ _ _ rfl
  have xa13 : W1.cell? ⟨X, 13, none⟩ = some (.slice ac nc cc) := by rw [hW1, hX]; exact World.cell?_alloc_at _ _ _ _ rfl
  have qX := block_lt_of_cell xa0
  have HmT : Hid (¬ m.T X) := fun e => by have := h.inT X e; omega
  have HB1 : Hid (Below w0.heap.size w0 W1) := hB.trans (hb1.mono hB.size)
  have htx := x.total_eq
  have hwt : wrap64 t = t := by unfold wrap64; omega
  have hwt1 : wrap64 (t + 1) = t + 1 := by unfold wrap64; omega
  have hN' : N ≤ N + x.total := Nat.le_add_right _ _
  have H1 := Lib.hid (And.intro (h.later hb1) hN')
  have HW := Lib.hid (And.intro hW1 (And.intro hX hb1))
  have Hmlo := Lib.hid h.low
  have Hw := Lib.hid hwB
  have Hs := Lib.hid hs
  have hpa := x.a.total_part
  have hpb := x.b.total_part
  have Ht := Lib.hid (show 0 ≤ t ∧ t + (x.a.total : Int) ≤ 1000000 ∧ (1 ≤ x.a.part → t + 1 + (x.b.total : Int) ≤ 1000000) ∧ t ≤ 1000000 by omega)
  have qb := h.in
  have hne9 : ne ≤ 1000000000 := by have := len_totS x.els; omega
  have hbr := St.gns_brk F x.body s.V s.words (s.code.length + (x.a.gn s.V F s.code.length t).length + 1) t []
  have hbn : N + St.totals x.body + St.totals x.els ≤ N + x.total := by omega
  have hbt : t + (St.totals x.body : Int) ≤ 1000000 ∧ t + (St.totals x.els : Int) ≤ 1000000 ∧ N + St.totals x.body + St.totals x.els ≤ 1000000000 := by omega
  obtain ⟨o1, ho1⟩ : ∃ o, o = St.gns F x.body s.V s.words (s.code.length + (x.a.gn s.V F s.code.length t).length + 1) t [] := ⟨_, rfl⟩
  have hfl := forkO_len (F := F) (body := x.body) (els := x.els) (s := s.add (x.a.gn s.V F s.code.length t)) (n := t) o1 (by rw [ho1, GS.add_len]; rfl) _ rfl
  have hl2 : s.code.length + (x.a.gn s.V F s.code.length t).length ≤ 999999999000 := by rw [hfl, GS.add_len] at hl; omega
  have hbp : s.pats.length + o1.brk.length + St.totals x.els ≤ 1000000000 ∧ s.pats.length + St.totals x.body ≤ 1000000000 := by rw [← ho1] at hbr; omega
  obtain ⟨L0, hL0⟩ : ∃ L, L = x.a.gn s.V F s.code.length t := ⟨_, rfl⟩
  rw [← hL0] at hl hl2 ho1 ⊢
  have Hl := Lib.hid (And.intro hl2 hL0)
  have Hf := Lib.hid (And.intro hd (And.intro he (And.intro hne (And.intro hne9 (And.intro hl (And.intro hbn (And.intro hbt (And.intro ho1 hbp))))))))
  have Ha := Lib.hid ha
  have q3 : (x.kind == 3) = false := by simp [hk]
  have q4 : (x.kind == 4) = false := by simp [hk]
  have q5 : (x.kind == 5) = true := by simp [hk]
  have q6 : (x.kind == 6) = false := by simp [hk]
  have q7 : (x.kind == 7) = false := by simp [hk]
  have q8 : (x.kind == 8) = false := by simp [hk]
  have q9 : (x.kind == 9) = false := by simp [hk]
  clear hB hwB h ht0 ht hl hX hW1 hb1 htx hs hgn hN hP hN' hpa hpb hL0 ha hk hne hne9 hd he hbr hbn hbt hfl hl2 hbp ho1
  unfold stVal
  go_enter Tryd.func23, Tryd.ntmps23
  go_upto_region 1 with (fail)
  rw [← HW.out.1, ← HW.out.2.1]
  go_wp2_with fail
  have hp := Ha.out W1 B m F N s t HB1.out Hw.out H1.out.1 Ht.out.1 Ht.out.2.1 (by rw [← Hl.out.2]; have := Hl.out.1; omega)
  rw [← Hl.out.2] at hp
  unfold exVal at hp
  refine hp.mono ?_
  rintro E w2 ⟨rfl, m2, hM2, hG2⟩
  clear hp
  have xb0 := (hG2.cell (p := ⟨X, 0, none⟩) qX HmT.out).trans xa0
  have xb1 := (hG2.cell (p := ⟨X, 1, none⟩) qX HmT.out).trans xa1
  have xb2 := (hG2.cell (p := ⟨X, 2, none⟩) qX HmT.out).trans xa2
  have xb3 := (hG2.cell (p := ⟨X, 3, none⟩) qX HmT.out).trans xa3
  have xb4 := (hG2.cell (p := ⟨X, 4, none⟩) qX HmT.out).trans xa4
  have xb5 := (hG2.cell (p := ⟨X, 5, none⟩) qX HmT.out).trans xa5
  have xb6 := (hG2.cell (p := ⟨X, 6, none⟩) qX HmT.out).trans xa6
  have xb7 := (hG2.cell (p := ⟨X, 7, none⟩) qX HmT.out).trans xa7
  have xb8 := (hG2.cell (p := ⟨X, 8, none⟩) qX HmT.out).trans xa8
  have xb9 := (hG2.cell (p := ⟨X, 9, none⟩) qX HmT.out).trans xa9
  have xb10 := (hG2.cell (p := ⟨X, 10, none⟩) qX HmT.out).trans xa10
  have xb11 := (hG2.cell (p := ⟨X, 11, none⟩) qX HmT.out).trans xa11
  have xb12 := (hG2.cell (p := ⟨X, 12, none⟩) qX HmT.out).trans xa12
  have xb13 := (hG2.cell (p := ⟨X, 13, none⟩) qX HmT.out).trans xa13
  have HX2 := Lib.hid (And.intro (hG2.block qX HmT.out).2 (Nat.lt_of_lt_of_le qX hG2.oth.size))
  have H2 := Lib.hid (And.intro hM2 hG2)
  clear hM2 hG2 xa0 xa1 xa2 xa3 xa4 xa5 xa6 xa7 xa8 xa9 xa10 xa11 xa12 xa13
  go_wp2_with fail
  have hp := fork_any x aa ab ad ae ac na nb nd ne nc ca cb cd ce cc w0 Hf.out.2.2.1 Hf.out.1 Hf.out.2.1 w2 B m2 F N (s.add L0) t (H2.out.2.below HB1.out fun k e => Nat.le_trans Hw.out (Hmlo.out k e)) Hw.out H2.out.1 Ht.out.1 Hf.out.2.2.2.2.2.2.1.1 Hf.out.2.2.2.2.2.2.1.2.1 Hf.out.2.2.2.2.2.2.1.2.2 (by
    show s.pats.length + (St.gns F x.body s.V s.words ((s.add L0).code.length + 1) t []).brk.length + _ ≤ _ ∧ s.pats.length + _ ≤ _
    rw [GS.add_len, ← Hf.out.2.2.2.2.2.2.2.1]
    exact Hf.out.2.2.2.2.2.2.2.2) Hf.out.2.2.2.1 Hf.out.2.2.2.2.1
  rw [H2.out.2.b] at hp
  unfold stVal at hp
  refine hp.mono ?_
  rintro E w3 ⟨rfl, m3, hM3, hG3⟩
  clear hp
  have H3 := Lib.hid (And.intro hM3 hG3)
  clear hM3 hG3
  go_wp2_with fail
  refine bodyPost_end (results_none rfl _ _ _) rfl ?_
  exact ⟨rfl, m3, H3.out.1.mono Hf.out.2.2.2.2.2.1, (GStep.of_below m HW.out.2.2).trans (H2.out.2.trans H3.out.2)⟩
end Go.Proofs.YtgobcldecokppaaDoor
