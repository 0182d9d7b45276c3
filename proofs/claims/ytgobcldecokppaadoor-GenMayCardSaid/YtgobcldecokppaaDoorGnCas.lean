/- gen: a switch, behind its number. -/
import Derived.Test.YtgobcldecokppaaDoorGnStm
namespace Go.Proofs.YtgobcldecokppaaDoor
open Go.RowKit Go.Maps

def casesO (F : ByteArray → Int) (cases : List Cs) (els : List St) (s : GS) (t : Int) : GS :=
  let oc := Cs.gns F cases s.V s.words s.code.length t
  let s1 := s.out oc.1
  (s1.out (St.gns F els s1.V s1.words s1.code.length t [])).leads oc.2
theorem casesO_eq {F : ByteArray → Int} {cases : List Cs} {els : List St} (s : GS) (t : Int) (oc : GOut × List Nat) (hoc : oc = Cs.gns F cases s.V s.words s.code.length t) (o2 : GOut) (ho2 : o2 = St.gns F els oc.1.V oc.1.words (s.code.length + oc.1.code.length) t []) :
    casesO F cases els s t = s.out ⟨patchAt oc.1.code s.code.length oc.2 ((s.code.length + oc.1.code.length + o2.code.length : Nat) : Int) ++ o2.code, oc.1.brk ++ o2.brk, o2.words, o2.V⟩ := by
  have hin : ∀ j ∈ oc.2, s.code.length ≤ j ∧ j < s.code.length + oc.1.code.length := fun j hj => by
    rw [hoc] at hj ⊢
    exact (Cs.gns_brk_in F cases s.V s.words s.code.length t j).2 hj
  unfold casesO
  simp only [← hoc, GS.out_len]
  simp only [show (s.out oc.1).V = oc.1.V from rfl, show (s.out oc.1).words = oc.1.words from rfl, ← ho2]
  simp only [GS.leads, GS.out, List.append_assoc]
  rw [patch_right s.code 0 _ oc.2 _ (fun j hj => by have := hin j hj; omega), Nat.zero_add, patch_left o2.code _ _ oc.2 _ (fun j hj => by have := hin j hj; omega)]
  simp only [List.length_append, ← Nat.add_assoc]
  congr 1
  simp only [regsOf, List.foldl_append]
  have h1 := regsOf_patch s.code.length ((s.code.length + oc.1.code.length + o2.code.length : Nat) : Int) s.regs oc.2 oc.1.code
  simp only [regsOf] at h1
  rw [h1]
theorem gn_switch {F : ByteArray → Int} {x : St} (hk : x.kind = 6) (s : GS) (t : Int) : s.out (St.gn F x s.V s.words s.code.length t) = casesO F x.cases x.els (s.add (x.a.gn s.V F s.code.length t)) t := by
  rw [casesO_eq (F := F) (s.add (x.a.gn s.V F s.code.length t)) t _ rfl _ rfl, St.gn_eq]
  simp only [gnSt, hk, GS.add_len]
  simp [GS.out, GS.add, regsOf, List.foldl_append]
/-- What is left of a switch's cases, from a state on; J: the jumps so far. -/
def restC (F : ByteArray → Int) (l : List Cs) (i : Nat) (s : GS) (t : Int) (J : List Nat) : GS × List Nat := (s.out (Cs.gns F (l.drop i) s.V s.words s.code.length t).1, J ++ (Cs.gns F (l.drop i) s.V s.words s.code.length t).2)
theorem restC_next {F : ByteArray → Int} {l : List Cs} {i : Nat} {y : Cs} (h : l[i]? = some y) (s : GS) (t : Int) (J : List Nat) (o : GOut) (ho : o = St.gns F y.body s.V s.words (s.code.length + 3) t []) :
    restC F l i s t J = restC F l (i + 1) (((s.add [⟨1, t + 1, 0, 0, y.n⟩, ⟨9, t + 1, t, t + 1, 0⟩, ⟨16, t + 1, 0, 0, ((s.code.length + 3 + o.code.length + 1 : Nat) : Int)⟩]).out o).add [⟨14, 0, 0, 0, 0⟩]) t (J ++ [s.code.length + 3 + o.code.length]) := by
  unfold restC
  have hlt := (List.getElem?_eq_some_iff.1 h).1
  rw [List.drop_eq_getElem_cons hlt, (List.getElem?_eq_some_iff.1 h).2]
  cases y with
  | mk yn body =>
    simp only [Cs.gns, Cs.gn]
    simp only [Cs.body] at ho
    simp only [← ho, Cs.n, GS.add_len, GS.out_len, List.length_cons, List.length_nil]
    simp only [show ∀ (a : GS) (l : List Ins), (a.add l).V = a.V from fun _ _ => rfl, show ∀ (a : GS) (l : List Ins), (a.add l).words = a.words from fun _ _ => rfl, show ∀ (a : GS) (b : GOut), (a.out b).V = b.V from fun _ _ => rfl, show ∀ (a : GS) (b : GOut), (a.out b).words = b.words from fun _ _ => rfl]
    simp [GS.out, GS.add, regsOf, List.foldl_append]
theorem restC_end {F : ByteArray → Int} {l : List Cs} (s : GS) (t : Int) (J : List Nat) : restC F l l.length s t J = (s, J) := by
  unfold restC
  rw [List.drop_eq_nil_of_le (Nat.le_refl _)]
  simp [Cs.gns, GS.out, regsOf]
theorem drop_totC {l : List Cs} {i : Nat} {x : Cs} (h : l[i]? = some x) : Cs.totals (l.drop i) = x.total + Cs.totals (l.drop (i + 1)) := by
  have hlt := (List.getElem?_eq_some_iff.1 h).1
  rw [List.drop_eq_getElem_cons hlt, (List.getElem?_eq_some_iff.1 h).2]
  rfl
theorem totC_drop : ∀ (l : List Cs) (i : Nat), Cs.totals (l.drop i) ≤ Cs.totals l
  | [], i => by simp
  | x :: l, 0 => Nat.le_refl _
  | x :: l, i + 1 => by
    have h := totC_drop l i
    simp only [List.drop_succ_cons, Cs.totals]
    omega
theorem len_totC : ∀ l : List Cs, l.length ≤ Cs.totals l
  | [] => Nat.le_refl _
  | x :: l => by
    have h := len_totC l
    have h2 := x.total_eq
    simp only [List.length_cons, Cs.totals]
    omega
/-- Deferred closures that lead instructions on. -/
inductive DefAt (w : World) (m : Mk) : List Deferred → List Nat → Prop
  | nil : DefAt w m [] []
  | cons {bm ba j : Nat} {ds : List Deferred} {J : List Nat} (h : Later w m (laterV bm ba) j) (r : DefAt w m ds J) : DefAt w m ({ target := .fn (.func 44) #[.pointer (some ⟨bm, 0, none⟩), .pointer (some ⟨ba, 0, none⟩)], args := #[] } :: ds) (j :: J)
theorem DefAt.step {w w' : World} {m m' : Mk} {ds : List Deferred} {J : List Nat} (h : DefAt w m ds J) (k : GStep w m w' m') : DefAt w' m' ds J := by
  induction h with
  | nil => exact .nil
  | cons h _ ih => exact .cons (h.step k) ih
theorem lead_len (s : GS) (i : Nat) : (s.lead i).code.length = s.code.length := by simp [GS.lead]
theorem leaves_leads {fn : Func} {tm : Array Value} {R : Ending → World → Prop} (hf : fn.results = #[]) {B : Nat} {m : Mk} {F : ByteArray → Int} {N : Nat} : ∀ (J : List Nat) (ds : List Deferred) (w : World) (s : GS), DefAt w m ds J → MkAt w B m F N s → (∀ j ∈ J, j < s.code.length) → s.code.length ≤ 1000000000000 →
    (∀ w', MkAt w' B m F N (s.leads J) → GStep w m w' m → R (.returned (.tuple #[])) w') → Leaves Tryd.prog fn tm R ds .returning w
  | [], _, w, s, .nil, hM, _, _, hR => ⟨_, results_none hf _ _ _, hR w hM (GStep.refl _ _)⟩
  | j :: J, _, w, s, .cons (bm := bm) (ba := ba) (ds := ds) hl hr, hM, hJ, hlen, hR => by
    have hcl := hl.cells
    refine leaves_cons (f := 44) (args := #[.pointer (some ⟨bm, 0, none⟩), .pointer (some ⟨ba, 0, none⟩)]) (by simp) (by simp [go_sem]) ?_
    refine (patchD_any .returning bm ba j w B m F N s hM (hJ j (by simp)) hlen hcl.1 hcl.2).mono ?_
    rintro E u' w2 ⟨rfl, rfl, hM2, hG2⟩
    exact leaves_leads hf J ds w2 (s.lead j) (hr.step hG2) hM2 (fun i hi => by rw [lead_len]; exact hJ i (by simp [hi])) (by rw [lead_len]; exact hlen) (fun w' hM' hG' => hR w' (by rw [leads_cons]; exact hM') (hG2.trans hG'))
set_option maxRecDepth 100000 in
set_option maxHeartbeats 8000000 in
theorem cases_any (x : St) (aa ab ad ae ac : Option Addr) (na nb nd ne nc ca cb cd ce cc : Nat) (w0 : World) (oc : Nat → Option Addr) (mc kc : Nat → Nat) (hnc : nc = x.cases.length) (hrow : RowOf w0 (.slice ac nc cc) nc 2 (fun b o i => ∀ y, x.cases[i]? = some y → CsAt w0 b o y (.slice (oc i) (mc i) (kc i))))
    (hck : ∀ (i : Nat) y, x.cases[i]? = some y → GlFor w0 y.body (.slice (oc i) (mc i) (kc i))) (he : GlFor w0 x.els (.slice ae ne ce))
    (W : World) (B : Nat) (m : Mk) (F : ByteArray → Int) (N : Nat) (s : GS) (t : Int) (hB : Below w0.heap.size w0 W) (hwB : w0.heap.size ≤ B) (h : MkAt W B m F N s) (ht0 : 0 ≤ t) (ht1 : t + 1 + (Cs.totals x.cases : Int) ≤ 1000000) (ht2 : t + (St.totals x.els : Int) ≤ 1000000)
    (hN : N + Cs.totals x.cases + St.totals x.els ≤ 1000000000) (hP : s.pats.length + Cs.totals x.cases + St.totals x.els ≤ 1000000000) (hl : (casesO F x.cases x.els s t).code.length ≤ 999999999000) :
    Calls Tryd.prog 38 #[ptrV m.b, stVal x (.slice aa na ca) (.slice ab nb cb) (.slice ad nd cd) (.slice ae ne ce) (.slice ac nc cc), .int .i64 t] W (fun E W' => E = .returned (.tuple #[]) ∧ ∃ m', MkAt W' B m' F (N + Cs.totals x.cases + St.totals x.els) (casesO F x.cases x.els s t) ∧ GStep W m W' m') := by
  obtain ⟨X, hX⟩ : ∃ X, X = W.heap.size := ⟨_, rfl⟩
  obtain ⟨W1, hW1⟩ : ∃ W1, W1 = W.alloc (.cells #[.int .i64 x.kind, .string x.name, .int .i64 x.n, .int .i64 x.a.kind, .int .i64 x.a.n, .string x.a.name, .slice aa na ca, .int .i64 x.b.kind, .int .i64 x.b.n, .string x.b.name, .slice ab nb cb, .slice ad nd cd, .slice ae ne ce, .slice ac nc cc] 56) := ⟨_, rfl⟩
  have hb1 : Below W.heap.size W W1 := by rw [hW1]; exact (Below.refl _ _).alloc (Nat.le_refl _) _
  have x12 : W1.cell? ⟨X, 12, none⟩ = some (.slice ae ne ce) := by rw [hW1, hX]; exact World.cell?_alloc_at _ _ _ _ rfl
  have x13 : W1.cell? ⟨X, 13, none⟩ = some (.slice ac nc cc) := by rw [hW1, hX]; exact World.cell?_alloc_at _ _ _ _ rfl
  have qX := block_lt_of_cell x12
  have HmT : Hid (¬ m.T X) := fun e => by have := h.inT X e; omega
  have HB1 : Hid (Below w0.heap.size w0 W1) := hB.trans (hb1.mono hB.size)
  obtain ⟨fin, hfin⟩ : ∃ f, f = restC F x.cases 0 s t [] := ⟨_, rfl⟩
  have hw1 : wrap64 (t + 1) = t + 1 := by unfold wrap64; omega
  have hn9 : nc ≤ 1000000000 := by have := len_totC x.cases; omega
  have hf0 : fin = (s.out (Cs.gns F x.cases s.V s.words s.code.length t).1, (Cs.gns F x.cases s.V s.words s.code.length t).2) := by rw [hfin]; simp [restC]
  have hlf : fin.1.code.length ≤ 999999999000 := by
    rw [casesO_eq s t _ rfl _ rfl, GS.out_len] at hl
    simp only [List.length_append, patch_len] at hl
    rw [hf0]
    show (s.out _).code.length ≤ _
    rw [GS.out_len]
    omega
  have H1 := Lib.hid (And.intro (h.later hb1) (And.intro x12 hfin))
  have HW := Lib.hid (And.intro hW1 (And.intro hX hb1))
  have Hmlo := Lib.hid h.low
  have Hy := Lib.hid (And.intro hrow (And.intro hck (And.intro he (And.intro hwB (And.intro hnc (And.intro hf0 hlf))))))
  have Hl := Lib.hid (And.intro hl (And.intro hN hP))
  have Ht := Lib.hid (show 0 ≤ t ∧ t + 1 + (Cs.totals x.cases : Int) ≤ 1000000 ∧ t + (St.totals x.els : Int) ≤ 1000000 ∧ t ≤ 999999 by omega)
  clear hrow hck he hB hwB h ht0 ht1 ht2 hl hX hW1 hb1 hN hP hnc hfin hf0 hlf x12
  unfold stVal
  go_enter_defers Tryd.func38, Tryd.ntmps38
  go_upto_region 1 with (fail)
  rw [← HW.out.1, ← HW.out.2.1]
  go_wp2_with fail
  refine wp_loop_ghost_k (fun k a' w' => ∃ (u7 u8 u13 u14 u15 u16 u17 u18 u19 u20 u21 u22 u23 u24 u25 u26 u27 u28 u29 u30 u31 u32 u33 u34 u35 u36 u37 u38 u39 u40 u41 u42 u43 u44 : Value) (iv : Value) (ds : List Deferred) (i : Nat) (J : List Nat) (mi : Mk) (Ni : Nat) (si : GS), (iv = .int .i64 (i : Int) ∧ k = nc - i ∧ i ≤ nc ∧ MkAt w' B mi F Ni si ∧ GStep W1 m w' mi ∧ DefAt w' mi ds J.reverse ∧ restC F x.cases i si t J = fin ∧ Ni + Cs.totals (x.cases.drop i) ≤ N + Cs.totals x.cases ∧ si.pats.length + Cs.totals (x.cases.drop i) + St.totals x.els ≤ 1000000000) ∧ a' = { tmps := #[ptrV m.b, .agg #[.int .i64 x.kind, .string x.name, .int .i64 x.n, .int .i64 x.a.kind, .int .i64 x.a.n, .string x.a.name, .slice aa na ca, .int .i64 x.b.kind, .int .i64 x.b.n, .string x.b.name, .slice ab nb cb, .slice ad nd cd, .slice ae ne ce, .slice ac nc cc], .int .i64 t, undef, .pointer (some ⟨X, 0, none⟩), undef, undef, u7, u8, .pointer (some ⟨X, 13, none⟩), .slice ac nc cc, .int .i64 (nc : Int), iv, u13, u14, u15, u16, u17, u18, u19, u20, u21, u22, u23, u24, u25, u26, u27, u28, u29, u30, u31, u32, u33, u34, u35, u36, u37, u38, u39, u40, u41, u42, u43, u44, undef, undef, undef, undef, undef], defers := ds }) nc ?_ ?_
  · exact ⟨undef, undef, undef, undef, undef, undef, undef, undef, undef, undef, undef, undef, undef, undef, undef, undef, undef, undef, undef, undef, undef, undef, undef, undef, undef, undef, undef, undef, undef, undef, undef, undef, undef, undef, .int .i64 0, [], 0, [], m, N, s, ⟨rfl, rfl, Nat.zero_le _, H1.out.1, GStep.refl _ _, .nil, H1.out.2.2.symm, Nat.le_refl _, Hl.out.2.2⟩, rfl⟩
  · rintro gk _ wr ⟨u7, u8, u13, u14, u15, u16, u17, u18, u19, u20, u21, u22, u23, u24, u25, u26, u27, u28, u29, u30, u31, u32, u33, u34, u35, u36, u37, u38, u39, u40, u41, u42, u43, u44, iv, ds, i, J, mi, Ni, si, ⟨rfl, hg, hi, hMi, hGi, hDi, hrest, hN1, hP1⟩, rfl⟩ Jv Kv hJ hK
    have HBr : Hid (Below w0.heap.size w0 wr) := hGi.below HB1.out fun k e => Nat.le_trans Hy.out.2.2.2.1 (Hmlo.out k e)
    have HJ := Lib.hid hJ
    clear hJ
    by_cases hin : i < nc
    · obtain ⟨y, hy⟩ : ∃ y, x.cases[i]? = some y := ⟨_, List.getElem?_eq_getElem (by rw [← Hy.out.2.2.2.2.1]; exact hin)⟩
      obtain ⟨b', off, rfl, hb', hP⟩ := Hy.out.1.at (i := i) hin
      obtain ⟨i0, i1⟩ := (hP y hy).later HBr.out hb'
      obtain ⟨W5, hW5⟩ : ∃ W5, W5 = wr.alloc (.cells #[.int .i64 y.n, .slice (oc i) (mc i) (kc i)] 90) := ⟨_, rfl⟩
      obtain ⟨Z, hZ⟩ : ∃ Z, Z = wr.heap.size := ⟨_, rfl⟩
      have hb5 : Below wr.heap.size wr W5 := by rw [hW5]; exact (Below.refl _ _).alloc (Nat.le_refl _) _
      have z05 : W5.cell? ⟨Z, 0, none⟩ = some (.int .i64 y.n) := by rw [hW5, hZ]; exact World.cell?_alloc_at _ _ _ _ rfl
      have z15 : W5.cell? ⟨Z, 1, none⟩ = some (.slice (oc i) (mc i) (kc i)) := by rw [hW5, hZ]; exact World.cell?_alloc_at _ _ _ _ rfl
      have qZ := block_lt_of_cell z05
      have hZT : Hid (¬ mi.T Z) := fun e => by have := hMi.inT Z e; omega
      have hin2 : (i : Int) < (nc : Int) := by omega
      have hd1 : decide ((i : Int) < (nc : Int)) = true := decide_eq_true hin2
      have hd2 : decide (i < nc) = true := decide_eq_true hin
      obtain ⟨o, ho⟩ : ∃ o, o = St.gns F y.body si.V si.words (si.code.length + 3) t [] := ⟨_, rfl⟩
      have hrn := (restC_next hy si t J o ho).symm.trans hrest
      have hbk : o.brk.length ≤ St.totals y.body := by rw [ho]; exact St.gns_brk F _ _ _ _ _ _
      have hdt := drop_totC hy
      have hyt := y.total_eq
      have hlen : si.code.length + 3 + o.code.length + 1 ≤ 999999999000 := by
        have h1 := Hy.out.2.2.2.2.2.2
        rw [← hrn] at h1
        unfold restC at h1
        rw [GS.out_len, GS.add_len, GS.out_len, GS.add_len] at h1
        simp only [List.length_cons, List.length_nil] at h1
        omega
      have Hin := Lib.hid (totC_drop x.cases i)
      have H5 := Lib.hid (And.intro (hMi.later hb5) (And.intro (hGi.trans (.of_below mi hb5)) (hDi.step (.of_below mi hb5))))
      have HW5 := Lib.hid (And.intro hW5 hZ)
      have Hi := Lib.hid (And.intro hg (And.intro hrn (And.intro (Hy.out.2.1 i y hy) (And.intro ho (And.intro hbk (And.intro hdt hyt))))))
      have Hb := Lib.hid (And.intro hN1 (And.intro hP1 hlen))
      clear hg hrest hN1 hP1 hMi hGi hDi hP hy hW5 hZ hb5 hb' hi ho hrn hbk hdt hyt hlen
      go_upto_region 4 with (fail)
      rw [← HW5.out.2, ← HW5.out.1]
      clear i0 i1
      obtain ⟨s2, hs2⟩ : ∃ s2, s2 = si.add [⟨1, t + 1, 0, 0, y.n⟩, ⟨9, t + 1, t, t + 1, 0⟩] := ⟨_, rfl⟩
      have hV2 : s2.V = si.V := by rw [hs2]; rfl
      have hw2 : s2.words = si.words := by rw [hs2]; rfl
      have hp2 : s2.pats = si.pats := by rw [hs2]; rfl
      have hc2 : s2.code.length = si.code.length + 2 := by rw [hs2, GS.add_len]; rfl
      have Hs2 := Lib.hid (And.intro hs2 (And.intro hV2 (And.intro hw2 (And.intro hp2 hc2))))
      clear hs2 hV2 hw2 hp2 hc2
      go_wp2_with fail
      have hp := put_any ⟨1, t + 1, 0, 0, y.n⟩ (regs3 (by have := Ht.out; omega) zero12 zero12 _ _) W5 B mi F Ni si H5.out.1 (by have := Hb.out.2.2; omega)
      rw [H5.out.2.1.b] at hp
      refine hp.mono ?_
      rintro E w6 ⟨rfl, m6, hM6, hG6⟩
      clear hp z05
      have z16 := (hG6.cell (p := ⟨Z, 1, none⟩) qZ hZT.out).trans z15
      have HZ6 := Lib.hid (And.intro (hG6.block qZ hZT.out).2 (Nat.lt_of_lt_of_le qZ hG6.oth.size))
      have H6 := Lib.hid (And.intro hM6 (And.intro (H5.out.2.1.trans hG6) (H5.out.2.2.step hG6)))
      clear hM6 hG6 z15
      go_wp2_with fail
      have hp := put_any ⟨9, t + 1, t, t + 1, 0⟩ (regs3 (by have := Ht.out; omega) (by have := Ht.out; omega) (by have := Ht.out; omega) _ _) w6 B m6 F Ni _ H6.out.1 (by rw [GS.add_len]; simp only [List.length_cons, List.length_nil]; have := Hb.out.2.2; omega)
      rw [H6.out.2.1.b, GS.add_add] at hp
      simp only [List.cons_append, List.nil_append] at hp
      rw [← Hs2.out.1] at hp
      refine hp.mono ?_
      rintro E w7 ⟨rfl, m7, hM7, hG7⟩
      clear hp
      have z17 := (hG7.cell (p := ⟨Z, 1, none⟩) HZ6.out.2 HZ6.out.1).trans z16
      have HZ7 := Lib.hid (And.intro (hG7.block HZ6.out.2 HZ6.out.1).2 (Nat.lt_of_lt_of_le HZ6.out.2 hG7.oth.size))
      have H7 := Lib.hid (And.intro hM7 (And.intro (H6.out.2.1.trans hG7) (H6.out.2.2.step hG7)))
      clear hM7 hG7 z16
      go_wp2_with fail
      have hp := later_any 16 (t + 1) 0 ⟨by have := Ht.out; omega, zero12⟩ w7 B m7 F Ni s2 H7.out.1 (by rw [Hs2.out.2.2.2.2]; have := Hb.out.2.2; omega)
      rw [H7.out.2.1.b] at hp
      refine hp.mono ?_
      rintro E w8 ⟨fv, rfl, m8, hM8, hG8, bm, ba, rfl, hlt⟩
      clear hp
      have HL8 : Hid (Later w8 m8 (laterV bm ba) s2.code.length) := ⟨bm, ba, rfl, hlt⟩
      unfold laterV
      have z18 := (hG8.cell (p := ⟨Z, 1, none⟩) HZ7.out.2 HZ7.out.1).trans z17
      have H8 := Lib.hid (And.intro hM8 (And.intro (H7.out.2.1.trans hG8) (H7.out.2.2.step hG8)))
      have HB8 : Hid (Below w0.heap.size w0 w8) := H8.out.2.1.below HB1.out fun k e => Nat.le_trans Hy.out.2.2.2.1 (Hmlo.out k e)
      clear hM8 hG8 hlt z17
      go_wp2_with fail
      have hp := Hi.out.2.2.1 w8 B m8 F Ni _ t HB8.out Hy.out.2.2.2.1 H8.out.1 Ht.out.1 (by
          have h1 := Ht.out.2.1; have h2 := Hi.out.2.2.2.2.2.1; have h3 := Hi.out.2.2.2.2.2.2; have h4 := Hb.out.1; have h5 := Hin.out; omega) (by
          have h1 := Hb.out.1; have h2 := Hl.out.2.1; have h3 := Hi.out.2.2.2.2.2.1; have h4 := Hi.out.2.2.2.2.2.2; omega) (by
          show s2.pats.length + _ ≤ _
          rw [Hs2.out.2.2.2.1]; have h1 := Hb.out.2.1; have h3 := Hi.out.2.2.2.2.2.1; have h4 := Hi.out.2.2.2.2.2.2; omega) (by
          rw [GS.add_len, Hs2.out.2.2.2.2]
          show _ + (St.gns F y.body s2.V s2.words _ t []).code.length ≤ _
          rw [Hs2.out.2.1, Hs2.out.2.2.1, show si.code.length + 2 + [(⟨16, t + 1, 0, 0, 0⟩ : Ins)].length = si.code.length + 3 from rfl, ← Hi.out.2.2.2.1]; have := Hb.out.2.2; omega)
      rw [H8.out.2.1.b, GS.add_len, Hs2.out.2.2.2.2, show (s2.add [⟨16, t + 1, 0, 0, 0⟩]).V = si.V from Hs2.out.2.1, show (s2.add [⟨16, t + 1, 0, 0, 0⟩]).words = si.words from Hs2.out.2.2.1, show si.code.length + 2 + [(⟨16, t + 1, 0, 0, 0⟩ : Ins)].length = si.code.length + 3 from rfl, ← Hi.out.2.2.2.1] at hp
      refine hp.mono ?_
      rintro E w9 ⟨rfl, m9, hM9, hG9⟩
      clear hp z18
      have H9 := Lib.hid (And.intro hM9 (And.intro (H8.out.2.1.trans hG9) (And.intro (H8.out.2.2.step hG9) (HL8.out.step hG9))))
      clear hM9 hG9
      go_wp2_with fail
      have hp := later_any 14 0 0 ⟨zero12, zero12⟩ w9 B m9 F _ _ H9.out.1 (by rw [GS.out_len, GS.add_len, Hs2.out.2.2.2.2]; simp only [List.length_cons, List.length_nil]; have := Hb.out.2.2; omega)
      rw [H9.out.2.1.b] at hp
      refine hp.mono ?_
      rintro E w10 ⟨fv, rfl, m10, hM10, hG10, bm2, ba2, rfl, hlt⟩
      clear hp
      have HL10 : Hid (Later w10 m10 (laterV bm2 ba2) ((s2.add [⟨16, t + 1, 0, 0, 0⟩]).out o).code.length) := ⟨bm2, ba2, rfl, hlt⟩
      unfold laterV
      have H10 := Lib.hid (And.intro hM10 (And.intro (H9.out.2.1.trans hG10) (And.intro (H9.out.2.2.1.step hG10) (H9.out.2.2.2.step hG10))))
      clear hM10 hG10 hlt
      go_wp2_with fail
      have hcl := H10.out.2.2.2.cells
      have hp := patch_any bm ba s2.code.length w10 B m10 F _ _ H10.out.1 (by rw [GS.add_len, GS.out_len, GS.add_len]; simp only [List.length_cons, List.length_nil]; omega) (by rw [GS.add_len, GS.out_len, GS.add_len, Hs2.out.2.2.2.2]; simp only [List.length_cons, List.length_nil]; have := Hb.out.2.2; omega) hcl.1 hcl.2
      refine hp.mono ?_
      rintro E w11 ⟨rfl, hM11, hG11⟩
      clear hp hcl
      rw [lead_out_add, Hs2.out.2.2.2.2, Hs2.out.1, GS.add_add] at hM11
      simp only [List.length_cons, List.length_nil, Nat.zero_add, List.cons_append, List.nil_append] at hM11
      have hcl : ((s2.add [⟨16, t + 1, 0, 0, 0⟩]).out o).code.length = si.code.length + 3 + o.code.length := by rw [GS.out_len, GS.add_len, Hs2.out.2.2.2.2]; rfl
      have H11 := Lib.hid (And.intro hM11 (And.intro (H10.out.2.1.trans hG11) (And.intro (H10.out.2.2.1.step hG11) (by rw [← hcl]; exact HL10.out.step hG11 : Later w11 m10 (laterV bm2 ba2) (si.code.length + 3 + o.code.length)))))
      clear hM11 hG11 hcl
      go_wp2_with fail
      refine Handed.intro (nc - (i + 1)) (by have := Hi.out.1; omega) (HJ.out _ _ _ ⟨_, _, _, _, _, _, _, _, _, _, _, _, _, _, _, _, _, _, _, _, _, _, _, _, _, _, _, _, _, _, _, _, _, _, _, _, i + 1, J ++ [si.code.length + 3 + o.code.length], m10, Ni + St.totals y.body, _, ⟨?_, rfl, hin, H11.out.1, H11.out.2.1, ?_, Hi.out.2.1, ?_, ?_⟩, rfl⟩)
      · go_num
      · rw [List.reverse_append]; exact .cons H11.out.2.2.2 H11.out.2.2.1
      · have h1 := Hb.out.1; have h3 := Hi.out.2.2.2.2.2.1; have h4 := Hi.out.2.2.2.2.2.2; omega
      · have h1 := Hb.out.2.1; have h3 := Hi.out.2.2.2.2.2.1; have h4 := Hi.out.2.2.2.2.2.2; have h5 := Hi.out.2.2.2.2.1
        show (si.pats ++ o.brk).length + _ + _ ≤ _
        rw [List.length_append]
        omega
    · obtain rfl : nc = i := by omega
      have hre := restC_end (F := F) (l := x.cases) si t J
      rw [← Hy.out.2.2.2.2.1, hrest] at hre
      have HI := Lib.hid (And.intro hMi (And.intro hGi (And.intro hDi (And.intro hre (And.intro hN1 hP1)))))
      have x12r := (hGi.cell (p := ⟨X, 12, none⟩) qX HmT.out).trans H1.out.2.1
      clear hg hi hin hMi hGi hDi hrest hre hN1 hP1
      have hoc := Prod.mk.inj (Hy.out.2.2.2.2.2.1.symm.trans HI.out.2.2.2.1)
      have hco : casesO F x.cases x.els s t = (si.out (St.gns F x.els si.V si.words si.code.length t [])).leads J := by
        unfold casesO
        show ((s.out (Cs.gns F x.cases s.V s.words s.code.length t).1).out (St.gns F x.els (s.out (Cs.gns F x.cases s.V s.words s.code.length t).1).V (s.out (Cs.gns F x.cases s.V s.words s.code.length t).1).words (s.out (Cs.gns F x.cases s.V s.words s.code.length t).1).code.length t [])).leads (Cs.gns F x.cases s.V s.words s.code.length t).2 = _
        rw [hoc.1, hoc.2]
      have hJb : ∀ j ∈ J, j < si.code.length := fun j hj => by
        rw [← hoc.2] at hj
        have h1 := (Cs.gns_brk_in F x.cases s.V s.words s.code.length t j).2 hj
        rw [← hoc.1, GS.out_len]
        exact h1.2
      have hll := Hl.out.1
      rw [hco, leads_len, GS.out_len] at hll
      have Hc := Lib.hid (And.intro hco (And.intro hJb hll))
      clear hoc hco hJb hll
      go_wp2_with fail
      have hp := Hy.out.2.2.1 wr B mi F Ni si t HBr.out Hy.out.2.2.2.1 HI.out.1 Ht.out.1 Ht.out.2.2.1 (by have h1 := HI.out.2.2.2.2.1; have h2 := Hl.out.2.1; omega) (by have h1 := HI.out.2.2.2.2.2; omega) Hc.out.2.2
      rw [HI.out.2.1.b] at hp
      refine hp.mono ?_
      rintro E w12 ⟨rfl, m12, hM12, hG12⟩
      clear hp x12r
      have H12 := Lib.hid (And.intro hM12 (And.intro (HI.out.2.1.trans hG12) (HI.out.2.2.1.step hG12)))
      clear hM12 hG12
      go_wp2_with fail
      refine leaves_leads rfl J.reverse ds w12 _ H12.out.2.2 H12.out.1 (fun j hj => ?_) (by rw [GS.out_len]; have := Hc.out.2.2; omega) (fun w' hM' hG' => ?_)
      · rw [GS.out_len]
        have := Hc.out.2.1 j (List.mem_reverse.1 hj)
        omega
      · refine ⟨rfl, m12, ?_, (GStep.of_below m HW.out.2.2).trans (H12.out.2.1.trans hG')⟩
        rw [leads_rev] at hM'
        rw [Hc.out.1]
        exact hM'.mono (by have h1 := HI.out.2.2.2.2.1; omega)
end Go.Proofs.YtgobcldecokppaaDoor
