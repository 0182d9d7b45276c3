/- gen: a call's code; then any expression's. -/
import Derived.Test.YtgobcldecokppaaDoorGnExpr
namespace Go.Proofs.YtgobcldecokppaaDoor
open Go.RowKit Go.Maps

theorem fn_zero (w : World) : (zeroValue 3).run Tryd.prog w = .ok (.int .i64 0) w := by kernel_rfl
theorem MkAt.lookF {w : World} {B : Nat} {m : Mk} {F : ByteArray → Int} {N : Nat} {s : GS} (h : MkAt w B m F N s) (y : ByteArray) (hy : y.size ≤ 16) : (Instr.lookup 60 (.map (some m.f)) (.string y) false).run Tryd.prog w = .ok (.int .i64 (F y)) w := by
  obtain ⟨S, D, h, _, _, _, hF⟩ := h.funcs
  obtain ⟨v, ps, hrun, hv⟩ := h.lookup Tryd.strKey Tryd.underlying60 (z := .int .i64 0) (fn_zero w) (zd := .lit (.int .i64 0)) (zp := []) rfl (WideMaps.keyOf_string_mk Tryd.underlying9 (show y.size ≤ maxLen by unfold maxLen; omega))
  have hv : numD v = some (D.atKey (keyS y) (.lit (.int .i64 0)), ps) := hv
  rw [hF y] at hv
  have e := numD_inv hv
  subst e
  exact hrun
theorem gnCall_snoc (fs : List Gn) (f : Gn) (p : Nat) (t : Int) : gnCall (fs ++ [f]) p t = gnCall fs p t ++ f (p + (gnCall fs p t).length) (t + fs.length) := by
  induction fs generalizing p t with
  | nil => simp [gnCall]
  | cons g fs ih =>
    simp only [List.cons_append, gnCall, ih, List.append_assoc, List.length_append, List.length_cons]
    rw [show p + (g p t).length + (gnCall fs (p + (g p t).length) (t + 1)).length = p + ((g p t).length + (gnCall fs (p + (g p t).length) (t + 1)).length) by omega, show t + 1 + (fs.length : Int) = t + ((fs.length + 1 : Nat) : Int) by omega]
theorem gns_len (V : GEnv) (F : ByteArray → Int) : ∀ l : List Ex, (Ex.gns V F l).length = l.length
  | [] => rfl
  | x :: l => by simp [Ex.gns, gns_len V F l]
theorem gns_getq {V : GEnv} {F : ByteArray → Int} {l : List Ex} {i : Nat} {y : Ex} (h : l[i]? = some y) : (Ex.gns V F l)[i]? = some (y.gn V F) := by
  induction l generalizing i with
  | nil => simp at h
  | cons z l ih =>
    cases i with
    | zero => simp at h; subst h; simp [Ex.gns]
    | succ i => simpa [Ex.gns] using ih (by simpa using h)
/-- The code of a call's first arguments. -/
def argsL (V : GEnv) (F : ByteArray → Int) (l : List Ex) (p : Nat) (t : Int) (i : Nat) : List Ins := gnCall ((Ex.gns V F l).take i) p t
theorem argsL_next {V : GEnv} {F : ByteArray → Int} {l : List Ex} {p : Nat} {t : Int} {i : Nat} {y : Ex} (h : l[i]? = some y) : argsL V F l p t (i + 1) = argsL V F l p t i ++ y.gn V F (p + (argsL V F l p t i).length) (t + i) := by
  have hi := (List.getElem?_eq_some_iff.1 h).1
  unfold argsL
  rw [take_next (gns_getq h), gnCall_snoc, List.length_take, gns_len, Nat.min_eq_left (Nat.le_of_lt hi)]
theorem argsL_le (V : GEnv) (F : ByteArray → Int) (l : List Ex) (p : Nat) (t : Int) (i : Nat) : (argsL V F l p t i).length ≤ (gnCall (Ex.gns V F l) p t).length := by
  unfold argsL
  have : ∀ (fs : List Gn) (p : Nat) (t : Int) (i : Nat), (gnCall (fs.take i) p t).length ≤ (gnCall fs p t).length := by
    intro fs
    induction fs with
    | nil => intro p t i; simp
    | cons f fs ih =>
      intro p t i
      cases i with
      | zero => simp [gnCall]
      | succ i => simp only [List.take_succ_cons, gnCall, List.length_append]; have := ih (p + (f p t).length) (t + 1) i; omega
  exact this _ _ _ _
theorem len_totE : ∀ l : List Ex, l.length ≤ Ex.totals l
  | [] => Nat.le_refl _
  | x :: l => by
    have h := len_totE l
    have h2 := x.total_eq
    simp only [List.length_cons, Ex.totals]
    omega
theorem at_tot {l : List Ex} {i : Nat} {y : Ex} (h : l[i]? = some y) : i + y.total ≤ Ex.totals l := by
  induction l generalizing i with
  | nil => simp at h
  | cons z l ih =>
    have h2 := z.total_eq
    simp only [Ex.totals]
    cases i with
    | zero => simp at h; subst h; omega
    | succ i => have := ih (by simpa using h); omega
set_option maxRecDepth 100000 in
set_option maxHeartbeats 4000000 in
theorem gx_call (x : Ex) (hk : x.kind = 4) (hs : x.name.size ≤ 16) (w0 : World) (ad : Option Addr) (k cap : Nat) (vs : Nat → Value) (hkl : k = x.args.length) (hrow0 : RowOf w0 (.slice ad k cap) k 4 (fun b o i => ∀ y, x.args[i]? = some y → ExAt w0 b o y (vs i)))
    (hih : ∀ (i : Nat) y, x.args[i]? = some y → GxFor w0 y (vs i)) (hfm : ∀ (i : Nat) y, x.args[i]? = some y → ∃ a n c, vs i = .slice a n c) : GxFor w0 x (.slice ad k cap) := by
  intro W B m F N s t hB hwB h ht0 ht hl
  obtain ⟨X, hX⟩ : ∃ X, X = W.heap.size := ⟨_, rfl⟩
  obtain ⟨W1, hW1⟩ : ∃ W1, W1 = W.alloc (.cells #[.int .i64 x.kind, .int .i64 x.n, .string x.name, .slice ad k cap] 53) := ⟨_, rfl⟩
  have hb1 : Below W.heap.size W W1 := by rw [hW1]; exact (Below.refl _ _).alloc (Nat.le_refl _) _
  have x0 : W1.cell? ⟨X, 0, none⟩ = some (.int .i64 x.kind) := by rw [hW1, hX]; exact World.cell?_alloc_at _ _ _ _ rfl
  have x1 : W1.cell? ⟨X, 1, none⟩ = some (.int .i64 x.n) := by rw [hW1, hX]; exact World.cell?_alloc_at _ _ _ _ rfl
  have x2 : W1.cell? ⟨X, 2, none⟩ = some (.string x.name) := by rw [hW1, hX]; exact World.cell?_alloc_at _ _ _ _ rfl
  have x3 : W1.cell? ⟨X, 3, none⟩ = some (.slice ad k cap) := by rw [hW1, hX]; exact World.cell?_alloc_at _ _ _ _ rfl
  have qX := block_lt_of_cell x0
  have HmT : Hid (¬ m.T X) := fun e => by have := h.inT X e; omega
  have HB1 : Hid (Below w0.heap.size w0 W1) := hB.trans (hb1.mono hB.size)
  have htx := x.total_eq
  have hwt : wrap64 t = t := by unfold wrap64; omega
  have hwt1 : wrap64 (t + 1) = t + 1 := by unfold wrap64; omega
  have H1 := Lib.hid (h.later hb1)
  have HW := Lib.hid (And.intro hW1 (And.intro hX hb1))
  have Hmlo := Lib.hid h.low
  have Hw := Lib.hid hwB
  have Hs := Lib.hid hs
  obtain ⟨LA, hLA⟩ : ∃ L, L = gnCall (Ex.gns s.V F x.args) s.code.length t := ⟨_, rfl⟩
  have hgn : x.gn s.V F s.code.length t = LA ++ [⟨19, t, t, 0, F x.name⟩] := by rw [Ex.gn_eq]; simp only [gnOf, hk, hLA]; rfl
  rw [hgn] at hl ⊢
  simp only [List.length_append, List.length_cons, List.length_nil] at hl
  have hkt : x.args.length ≤ Ex.totals x.args := len_totE _
  have hk62 : k ≤ 1000000 := by omega
  have Hr := Lib.hid (And.intro hrow0 (And.intro hih (And.intro hkl hfm)))
  have Hl := Lib.hid (And.intro hl hLA)
  have Ht := Lib.hid (show 0 ≤ t ∧ t ≤ 1000000 ∧ t + 1 + (Ex.totals x.args : Int) ≤ 1000000 by omega)
  have qb := h.in
  have q1 : (x.kind == 1) = false := by simp [hk]
  have q2 : (x.kind == 2) = false := by simp [hk]
  have q3 : (x.kind == 3) = false := by simp [hk]
  have q4 : (x.kind == 4) = true := by simp [hk]
  have q5 : (x.kind == 5) = false := by simp [hk]
  have q6 : (x.kind == 6) = false := by simp [hk]
  have q18 : (x.kind == 18) = false := by simp [hk]
  have q19 : (x.kind == 19) = false := by simp [hk]
  have q20 : (x.kind == 20) = false := by simp [hk]
  clear hB hwB h ht0 ht hl hX hW1 hb1 htx hs hfm hk hgn hih hrow0 hkl hkt hLA
  unfold exVal
  go_enter Tryd.func22, Tryd.ntmps22
  go_upto_region 1 with (fail)
  rw [← HW.out.1, ← HW.out.2.1]
  go_wp2_with fail
  go_loopg [87] k (fun g iv wx => ∃ (i : Nat) (mi : Mk), g = k - i ∧ iv = .int .i64 (i : Int) ∧ i ≤ k ∧ MkAt wx B mi F N (s.add (argsL s.V F x.args s.code.length t i)) ∧ GStep W1 m wx mi)
  case atStart => exact ⟨0, m, rfl, rfl, Nat.zero_le _, by have h1 := H1.out; simpa [argsL, gnCall, GS.add, regsOf] using h1, GStep.refl _ _⟩
  case round =>
    obtain ⟨i, mi, hg, rfl, hi, hMi, hGi⟩ := hrel
    by_cases hin : i < k
    · obtain ⟨y, hy⟩ : ∃ y, x.args[i]? = some y := ⟨_, List.getElem?_eq_getElem (by rw [← Hr.out.2.2.1]; exact hin)⟩
      obtain ⟨b', off, rfl, hb', hP⟩ := Hr.out.1.at (i := i) hin
      have HBi : Hid (Below w0.heap.size w0 wr) := hGi.below HB1.out fun k e => Nat.le_trans Hw.out (Hmlo.out k e)
      obtain ⟨i0, i1, i2, i3⟩ := (hP y hy).later HBi.out hb'
      obtain ⟨a', n', c', hvs⟩ := Hr.out.2.2.2 i y hy
      have hgx := Hr.out.2.1 i y hy
      rw [hvs] at hgx i3
      obtain ⟨W2, hW2⟩ : ∃ W2, W2 = wr.alloc (.cells #[.int .i64 y.kind, .int .i64 y.n, .string y.name, .slice a' n' c'] 53) := ⟨_, rfl⟩
      obtain ⟨Y, hY⟩ : ∃ Y, Y = wr.heap.size := ⟨_, rfl⟩
      have hb2 : Below wr.heap.size wr W2 := by rw [hW2]; exact (Below.refl _ _).alloc (Nat.le_refl _) _
      have z0 : W2.cell? ⟨Y, 0, none⟩ = some (.int .i64 y.kind) ∧ W2.cell? ⟨Y, 1, none⟩ = some (.int .i64 y.n) ∧ W2.cell? ⟨Y, 2, none⟩ = some (.string y.name) ∧ W2.cell? ⟨Y, 3, none⟩ = some (.slice a' n' c') := by
        rw [hW2, hY]; exact ⟨World.cell?_alloc_at _ _ _ _ rfl, World.cell?_alloc_at _ _ _ _ rfl, World.cell?_alloc_at _ _ _ _ rfl, World.cell?_alloc_at _ _ _ _ rfl⟩
      have H2 := Lib.hid (And.intro (hMi.later hb2) (hGi.trans (.of_below mi hb2)))
      have HW2 := Lib.hid (And.intro hW2 hY)
      have Hg := Lib.hid (And.intro hg (And.intro hgx (And.intro (HBi.out.trans (hb2.mono HBi.out.size)) (And.intro hi hy))))
      have hin2 : (i : Int) < (k : Int) := by omega
      have hd1 : decide ((i : Int) < (k : Int)) = true := decide_eq_true hin2
      have hd2 : decide (i < k) = true := decide_eq_true hin
      have hwi : wrap64 (t + (i : Int)) = t + (i : Int) := by have := Ht.out; unfold wrap64; omega
      clear hMi hGi hg hP hb' hy hb2 hW2 hY hi hgx hvs
      go_upto_region 18 with (fail)
      rw [← HW2.out.2, ← HW2.out.1]
      clear i0 i1 i2 i3
      obtain ⟨z1, z2, z3, z4⟩ := z0
      go_wp2_with fail
      have hp := Hg.out.2.1 W2 B mi F N _ (t + (i : Int)) Hg.out.2.2.1 Hw.out H2.out.1 (by have := Ht.out; omega) (by have h1 := at_tot Hg.out.2.2.2.2; have := Ht.out; omega) (by
        have h1 := argsL_le s.V F x.args s.code.length t (i + 1)
        rw [argsL_next Hg.out.2.2.2.2, List.length_append, ← Hl.out.2] at h1
        rw [GS.add_len, show (s.add (argsL s.V F x.args s.code.length t i)).V = s.V from rfl]
        have := Hl.out.1
        omega)
      rw [H2.out.2.b, GS.add_len, show (s.add (argsL s.V F x.args s.code.length t i)).V = s.V from rfl, GS.add_add, ← argsL_next Hg.out.2.2.2.2] at hp
      unfold exVal at hp
      refine hp.mono ?_
      rintro E w3 ⟨rfl, m3, hM3, hG3⟩
      clear hp z1 z2 z3 z4
      have H3 := Lib.hid (And.intro hM3 (H2.out.2.trans hG3))
      clear hM3 hG3
      go_wp2_with fail
      go_roundg (k - (i + 1))
      case measure => have := Hg.out.1; omega
      case rel => exact ⟨i + 1, m3, rfl, by go_num, hin, H3.out.1, H3.out.2⟩
    · obtain rfl : k = i := by omega
      have HA : Hid (argsL s.V F x.args s.code.length t k = LA) := by
        show _ = _
        unfold argsL
        rw [List.take_of_length_le (by rw [gns_len, ← Hr.out.2.2.1]; exact Nat.le_refl _), ← Hl.out.2]
      rw [HA.out] at hMi
      have Hi := Lib.hid (And.intro hMi hGi)
      have hxk := (hGi.cell (p := ⟨X, 2, none⟩) qX HmT.out).trans x2
      have HXi := Lib.hid (And.intro (hGi.block qX HmT.out).2 (Nat.lt_of_lt_of_le qX hGi.oth.size))
      have hc1 := hMi.c1
      rw [hGi.b, hGi.f] at hc1
      clear hMi hGi hin x0 x1 x2 x3
      go_upto_region 20 with (fail)
      obtain ⟨fx, hfx⟩ : ∃ z, z = F x.name := ⟨_, rfl⟩
      refine wp_region_held (S := fun w => w.cell? ⟨m.b, 1, none⟩ = some (.map (some m.f)) ∧ w.cell? ⟨X, 2, none⟩ = some (.string x.name) ∧ (Instr.lookup 60 (.map (some m.f)) (.string x.name) false).run Tryd.prog w = .ok (.int .i64 fx) w) rfl ?_
      change wpAnyH _ _ _ _ _ _ _ _ wr.drew
      obtain ⟨W0, hW0⟩ : ∃ W0, W0 = wr.drew := ⟨_, rfl⟩
      rw [← hW0]
      have hb0 : Below wr.heap.size wr W0 := by rw [hW0]; exact (Below.refl _ _).drew
      have HM0 := Lib.hid (Hi.out.1.later hb0)
      have hx20 := (hb0.cell (p := ⟨X, 2, none⟩) HXi.out.2).trans hxk
      have hm20 := HM0.out.c1
      rw [Hi.out.2.b, Hi.out.2.f] at hm20
      have hlf := HM0.out.lookF x.name Hs.out
      rw [Hi.out.2.f, ← hfx] at hlf
      have Hb : Hid (W0.cell? ⟨m.b, 1, none⟩ = some (.map (some m.f)) ∧ W0.cell? ⟨X, 2, none⟩ = some (.string x.name) ∧ (Instr.lookup 60 (.map (some m.f)) (.string x.name) false).run Tryd.prog W0 = .ok (.int .i64 fx) W0) := ⟨hm20, hx20, hlf⟩
      have Hg0 := Lib.hid (And.intro hb0 (And.intro hx20 hfx))
      clear hb0 hx20 hfx hW0 hm20 hlf hxk hc1
      refine wpAnyH_take (i := 0) (by simp only [List.getElem?_toArray, List.getElem?_cons_zero]; rfl) (by kernel_rfl) (by kernel_rfl) (by kernel_rfl) (by intro _ _ _ h; exact h) (Or.inl ⟨by rfl, fun w hw => by (obtain ⟨k0, k1, k2⟩ := hw; go_simp; try rfl)⟩) Hb.out ?_
      refine wpAnyH_take (i := 1) (by simp only [List.getElem?_toArray, List.getElem?_cons_succ, List.getElem?_cons_zero]; rfl) (by kernel_rfl) (by kernel_rfl) (by kernel_rfl) (by intro _ _ _ h; exact h) (Or.inl ⟨by rfl, fun w hw => by (obtain ⟨k0, k1, k2⟩ := hw; go_simp; try rfl)⟩) Hb.out ?_
      go_frame
      refine wpAnyH_take (i := 2) (by simp only [List.getElem?_toArray, List.getElem?_cons_succ, List.getElem?_cons_zero]; rfl) (by kernel_rfl) (by kernel_rfl) (by kernel_rfl) (by intro _ _ _ h; exact h) (Or.inl ⟨by rfl, fun w hw => by (obtain ⟨k0, k1, k2⟩ := hw; go_simp; try rfl)⟩) Hb.out ?_
      refine wpAnyH_take (i := 3) (by simp only [List.getElem?_toArray, List.getElem?_cons_succ, List.getElem?_cons_zero]; rfl) (by kernel_rfl) (by kernel_rfl) (by kernel_rfl) (by intro _ _ _ h; exact h) (Or.inl ⟨by rfl, fun w hw => by (obtain ⟨k0, k1, k2⟩ := hw; go_simp; try rfl)⟩) Hb.out ?_
      go_frame
      refine wpAnyH_take (i := 4) (by simp only [List.getElem?_toArray, List.getElem?_cons_succ, List.getElem?_cons_zero]; rfl) (by kernel_rfl) (by kernel_rfl) (by kernel_rfl) (by intro _ _ _ h; exact h) (Or.inl ⟨by rfl, fun w hw => by (obtain ⟨k0, k1, k2⟩ := hw; go_simp; try rfl)⟩) Hb.out ?_
      refine wpAnyH_take (i := 5) (by simp only [List.getElem?_toArray, List.getElem?_cons_succ, List.getElem?_cons_zero]; rfl) (by kernel_rfl) (by kernel_rfl) (by kernel_rfl) (by intro _ _ _ h; exact h) (Or.inl ⟨by rfl, fun w hw => by (obtain ⟨k0, k1, k2⟩ := hw; go_simp; try rfl)⟩) Hb.out ?_
      go_frame
      refine wpAnyH_take (i := 6) (by simp only [List.getElem?_toArray, List.getElem?_cons_succ, List.getElem?_cons_zero]; rfl) (by kernel_rfl) (by kernel_rfl) (by kernel_rfl) (by intro _ _ _ h; exact h) (Or.inl ⟨by rfl, fun w hw => by (obtain ⟨k0, k1, k2⟩ := hw; go_simp; try rfl)⟩) Hb.out ?_
      refine wpAnyH_take (i := 7) (by simp only [List.getElem?_toArray, List.getElem?_cons_succ, List.getElem?_cons_zero]; rfl) (by kernel_rfl) (by kernel_rfl) (by kernel_rfl) (by intro _ _ _ h; exact h) (Or.inl ⟨by rfl, fun w hw => by (obtain ⟨k0, k1, k2⟩ := hw; go_simp; try rfl)⟩) Hb.out ?_
      go_frame
      refine wpAnyH_take (i := 8) (by simp only [List.getElem?_toArray, List.getElem?_cons_succ, List.getElem?_cons_zero]; rfl) (by kernel_rfl) (by kernel_rfl) (by kernel_rfl) (by intro _ _ _ h; exact h) (Or.inl ⟨by rfl, fun w hw => by (obtain ⟨k0, k1, k2⟩ := hw; go_simp; try rfl)⟩) Hb.out ?_
      refine wpAnyH_take (i := 9) (by simp only [List.getElem?_toArray, List.getElem?_cons_succ, List.getElem?_cons_zero]; rfl) (by kernel_rfl) (by kernel_rfl) (by kernel_rfl) (by intro _ _ _ h; exact h) (Or.inl ⟨by rfl, fun w hw => by (obtain ⟨k0, k1, k2⟩ := hw; go_simp; try rfl)⟩) Hb.out ?_
      go_frame
      refine wpAnyH_take (i := 10) (by simp only [List.getElem?_toArray, List.getElem?_cons_succ, List.getElem?_cons_zero]; rfl) (by kernel_rfl) (by kernel_rfl) (by kernel_rfl) (by intro _ _ _ h; exact h) (Or.inl ⟨by rfl, fun w hw => by (obtain ⟨k0, k1, k2⟩ := hw; go_simp; try rfl)⟩) Hb.out ?_
      go_frame
      refine wpAnyH_ready (rs := [11]) (by kernel_rfl) (by simp) ?_
      refine AllReadyH.cons rfl (fun K hK => ?_) AllReadyH.nil
      go_simp
      have hp := put_any ⟨19, t, t, 0, fx⟩ (regs3 (by have := Ht.out; omega) (by have := Ht.out; omega) zero12 _ _) W0 B mi F N _ HM0.out (by rw [GS.add_len]; have := Hl.out.1; omega)
      rw [Hi.out.2.b, GS.add_add] at hp
      refine hp.mono ?_
      rintro E w2 ⟨rfl, m2, hM2, hG2⟩
      clear hp
      have hGi2 := Hi.out.2.trans ((GStep.of_below mi Hg0.out.1).trans hG2)
      have hx22 := (hG2.cell (p := ⟨X, 2, none⟩) (Nat.lt_of_lt_of_le HXi.out.2 Hg0.out.1.size) HXi.out.1).trans Hg0.out.2.1
      have HS2 : Hid (w2.cell? ⟨m.b, 1, none⟩ = some (.map (some m.f)) ∧ w2.cell? ⟨X, 2, none⟩ = some (.string x.name) ∧ (Instr.lookup 60 (.map (some m.f)) (.string x.name) false).run Tryd.prog w2 = .ok (.int .i64 fx) w2) :=
        ⟨by have h1 := hM2.c1; rw [hGi2.b, hGi2.f] at h1; exact h1, hx22, by have h1 := hM2.lookF x.name Hs.out; rw [hGi2.f, ← Hg0.out.2.2] at h1; exact h1⟩
      have H2 := Lib.hid (And.intro hM2 hGi2)
      clear hM2 hG2 hx22 hGi2
      refine hK.out _ _ HS2.out (fun _ => ?_)
      clear hK K
      try go_frame
      refine wpAnyH_done (by kernel_rfl) ?_ _
      go_wp2_with fail
      refine bodyPost_end (results_none rfl _ _ _) rfl ?_
      exact ⟨rfl, m2, by rw [← Hg0.out.2.2]; exact H2.out.1, (GStep.of_below m HW.out.2.2).trans H2.out.2⟩
mutual
/-- As many arguments as the code asks for; short names. -/
def Ex.fit : Ex → Prop
  | .mk k _ s l => s.size ≤ 16 ∧ (k = 1 ∨ k = 2 ∨ k = 4 ∨ (k = 3 ∨ k = 5 ∨ k = 6) ∧ 1 ≤ l.length ∨ k = 20 ∧ 3 ≤ l.length ∨ k ≠ 20 ∧ 2 ≤ l.length) ∧ Ex.fits l
def Ex.fits : List Ex → Prop
  | [] => True
  | x :: l => Ex.fit x ∧ Ex.fits l
end
theorem Ex.fit_eq (x : Ex) : x.fit ↔ x.name.size ≤ 16 ∧ (x.kind = 1 ∨ x.kind = 2 ∨ x.kind = 4 ∨ (x.kind = 3 ∨ x.kind = 5 ∨ x.kind = 6) ∧ 1 ≤ x.args.length ∨ x.kind = 20 ∧ 3 ≤ x.args.length ∨ x.kind ≠ 20 ∧ 2 ≤ x.args.length) ∧ Ex.fits x.args := by cases x; simp only [Ex.fit, Ex.name, Ex.kind, Ex.args]
theorem Ex.fits_at {l : List Ex} (h : Ex.fits l) {i : Nat} {x : Ex} (hx : l[i]? = some x) : x.fit := by
  induction l generalizing i with
  | nil => simp at hx
  | cons y l ih =>
    simp only [Ex.fits] at h
    cases i with
    | zero => simp at hx; subst hx; exact h.1
    | succ i => exact ih h.2 (by simpa using hx)
theorem gexpr_any (l : List Ex) (v : Value) (w0 : World) (h : ExsIn w0 l v) : ∀ x : Ex, x.args = l → x.fit → GxFor w0 x v := by
  induction h with
  | mk l v vs h each ih =>
  intro x hx hf
  obtain ⟨hs, hk, hfs⟩ := (Ex.fit_eq x).1 hf
  obtain ⟨a, cap, rfl, _, _⟩ := h.form
  subst hx
  have hih : ∀ (i : Nat) y, x.args[i]? = some y → GxFor w0 y (vs i) := fun i y hy => ih i y hy y rfl (Ex.fits_at hfs hy)
  have hfm : ∀ (i : Nat) y, x.args[i]? = some y → ∃ a n c, vs i = .slice a n c := fun i y hy => by obtain ⟨a, c, e, _⟩ := (each i y hy).form; exact ⟨a, _, c, e⟩
  by_cases h1 : x.kind = 1
  · exact gx_num x h1 hs w0 a _ cap
  by_cases h2 : x.kind = 2
  · exact gx_name x h2 hs w0 a _ cap
  by_cases h4 : x.kind = 4
  · exact gx_call x h4 hs w0 a _ cap vs rfl h hih hfm
  by_cases h3 : x.kind = 3
  · exact gx_index x h3 hs w0 a _ cap vs rfl (by omega) h hih
  by_cases h5 : x.kind = 5
  · exact gx_neg x h5 hs w0 a _ cap vs rfl (by omega) h hih
  by_cases h6 : x.kind = 6
  · exact gx_not x h6 hs w0 a _ cap vs rfl (by omega) h hih
  by_cases h18 : x.kind = 18
  · exact gx_and x h18 hs w0 a _ cap vs rfl (by omega) h hih
  by_cases h19 : x.kind = 19
  · exact gx_or x h19 hs w0 a _ cap vs rfl (by omega) h hih
  by_cases h20 : x.kind = 20
  · exact gx_choose x h20 hs w0 a _ cap vs rfl (by omega) h hih
  exact gx_two x h1 h2 h3 h4 h5 h6 h18 h19 h20 hs w0 a _ cap vs rfl (by omega) h hih
end Go.Proofs.YtgobcldecokppaaDoor
