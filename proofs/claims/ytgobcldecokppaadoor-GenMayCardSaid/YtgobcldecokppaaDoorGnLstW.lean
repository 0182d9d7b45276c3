/- gen: a list of statements, the walk. -/
import Derived.Test.YtgobcldecokppaaDoorGnLst
namespace Go.Proofs.YtgobcldecokppaaDoor
open Go.RowKit Go.Maps

theorem Ex.total_part (x : Ex) : x.total ≤ 1 + x.part := by
  unfold Ex.part
  split
  · rename_i h
    rw [Ex.total_eq]
    cases x with
    | mk k n s l => cases l <;> simp_all [Ex.zero, Ex.args, Ex.totals]
  · omega
theorem len_totS : ∀ l : List St, l.length ≤ St.totals l
  | [] => Nat.le_refl _
  | x :: l => by
    have h := len_totS l
    have h2 := x.total_eq
    simp only [List.length_cons, St.totals]
    omega
set_option maxRecDepth 100000 in
set_option maxHeartbeats 8000000 in
theorem glist_row (l : List St) (a : Option Addr) (n cap : Nat) (hn : n = l.length) (oa ob od oe oc : Nat → Option Addr) (ma mb md me mc ka kb kd ke kc : Nat → Nat) (w0 : World)
    (hrow : RowOf w0 (.slice a n cap) n 14 (fun b o i => ∀ x, l[i]? = some x → StAt w0 b o x (.slice (oa i) (ma i) (ka i)) (.slice (ob i) (mb i) (kb i)) (.slice (od i) (md i) (kd i)) (.slice (oe i) (me i) (ke i)) (.slice (oc i) (mc i) (kc i))))
    (hx : ∀ (i : Nat) x, l[i]? = some x → x.name.size ≤ 16 ∧ (x.kind = 1 → GxFor w0 x.a (.slice (oa i) (ma i) (ka i))) ∧ (x.kind ≠ 1 → x.kind ≠ 2 → GsFor w0 x (stVal x (.slice (oa i) (ma i) (ka i)) (.slice (ob i) (mb i) (kb i)) (.slice (od i) (md i) (kd i)) (.slice (oe i) (me i) (ke i)) (.slice (oc i) (mc i) (kc i))))) :
    GlFor w0 l (.slice a n cap) := by
  intro W B m F N s t hB hwB h ht0 ht hN hP hl
  obtain ⟨X, hX⟩ : ∃ X, X = W.heap.size := ⟨_, rfl⟩
  obtain ⟨W1, hW1⟩ : ∃ W1, W1 = W.alloc (.cells #[ptrV m.b] 61) := ⟨_, rfl⟩
  obtain ⟨W2, hW2⟩ : ∃ W2, W2 = W1.alloc (.cells #[.slice none 0 0] 81) := ⟨_, rfl⟩
  obtain ⟨Y, hY⟩ : ∃ Y, Y = W.heap.size + 1 := ⟨_, rfl⟩
  have hmf : ∀ (fn : Go.Fn) (first cap : Array Value) (w : World), (Instr.makeFunc fn first cap).run Tryd.prog w = .ok (.func fn first cap) w := fun _ _ _ _ => rfl
  have H := Lib.hid (And.intro h (And.intro hB (And.intro hwB (And.intro hN (And.intro hP hl)))))
  have HW := Lib.hid (And.intro hW1 (And.intro hW2 (And.intro hX hY)))
  have Hr := Lib.hid (And.intro hrow (And.intro hx hn))
  have Ht := Lib.hid (And.intro ht0 ht)
  clear h hB hwB hN hP hl hX hY hW1 hW2 hrow hx hn ht0 ht
  unfold ptrV at *
  go_enter_defers Tryd.func10, Tryd.ntmps10
  go_wp2_with fail
  rw [← HW.out.1, ← HW.out.2.1, ← HW.out.2.2.2, ← HW.out.2.2.1]
  have hM2 : MkAt W2 B m F N s := by
    rw [HW.out.2.1, HW.out.1]
    exact H.out.1.later (((Below.refl _ _).alloc (Nat.le_refl _) _).alloc (by simp) _)
  have hb2 : Below W.heap.size W W2 := by rw [HW.out.2.1, HW.out.1]; exact ((Below.refl _ _).alloc (Nat.le_refl _) _).alloc (by simp) _
  have hx2 : W2.cell? ⟨X, 0, none⟩ = some (ptrV m.b) := by
    rw [HW.out.2.1, World.cell?_alloc_past _ _ _ (by rw [HW.out.1, HW.out.2.2.1]; simp), HW.out.1]
    exact World.cell?_alloc_at _ _ _ _ HW.out.2.2.1
  have hy2 : W2.cell? ⟨Y, 0, none⟩ = some (.slice none 0 0) := by
    rw [HW.out.2.1]
    exact World.cell?_alloc_at _ _ _ _ (by rw [HW.out.2.2.2, HW.out.1]; simp)
  have hyf : W2.frozen? ⟨Y, 0, none⟩ = false := by rw [HW.out.2.1]; exact World.frozen?_alloc_at _ _ _ _ (by rw [HW.out.2.2.2, HW.out.1]; simp)
  have hxT : ¬ m.T X := fun e => by have h1 := H.out.1.inT X e; have h2 := HW.out.2.2.1; omega
  have hyT : ¬ m.T Y := fun e => by have h1 := H.out.1.inT Y e; have h2 := HW.out.2.2.2; omega
  have hmfl : m.f < W.heap.size := by obtain ⟨S, hS⟩ := H.out.1.funcs; exact hS.lt
  obtain ⟨C, hC⟩ : ∃ C, C = W.heap.size := ⟨_, rfl⟩
  have hCY : C ≤ Y := by have := HW.out.2.2.2; omega
  have hn9 : n ≤ 1000000000 := by have h1 := Hr.out.2.2; have h2 := len_totS l; have h3 := H.out.2.2.2.1; omega
  have hN2 : NmAt W2 C m X Y (.slice none 0 0) [] := ⟨hx2, hy2, hyf, World.ownsRow_nil _ _ _ _, hxT, ⟨hyT, (by have := HW.out.2.2.2; omega)⟩, fun k e => (by cases e), (by have h1 := HW.out.2.2.1; have h2 := HW.out.2.2.2; omega), fun _ => rfl⟩
  obtain ⟨fin, hfin⟩ : ∃ f, f = s.out (St.gns F l s.V s.words s.code.length t []) := ⟨_, rfl⟩
  have H2 := Lib.hid (And.intro hM2 (And.intro hN2 (And.intro (And.intro hb2 (And.intro hC hCY)) hfin)))
  have Hfl := Lib.hid hmfl
  have Hfin : Hid (fin.code.length ≤ 999999999000) := by show _ ≤ _; rw [hfin, GS.out_len]; exact H.out.2.2.2.2.2
  clear hM2 hN2 hb2 hfin hx2 hy2 hyf hxT hyT hmfl hC hCY
  go_loopg [2, 12] n (fun g tv iv wx => ∃ (i : Nat) (ti : Int) (ns : List ByteArray) (nv : Value) (mi : Mk) (Ni : Nat) (si : GS), g = n - i ∧ iv = .int .i64 (i : Int) ∧ tv = .int .i64 ti ∧ i ≤ n ∧ MkAt wx B mi F Ni si ∧ NmAt wx C mi X Y nv ns ∧ GStep W m wx mi ∧ restO F l i si ti ns = fin ∧ 0 ≤ ti ∧ ti + (St.totals (l.drop i) : Int) ≤ 1000000 ∧ Ni + St.totals (l.drop i) ≤ N + St.totals l ∧ si.pats.length + St.totals (l.drop i) ≤ 1000000000 ∧ ns.length ≤ i ∧ (∀ y ∈ ns, y.size ≤ 16))
  case atStart => exact ⟨0, t, [], .slice none 0 0, m, N, s, rfl, rfl, rfl, Nat.zero_le _, H2.out.1, H2.out.2.1, GStep.of_below m H2.out.2.2.1.1, H2.out.2.2.2.symm, Ht.out.1, Ht.out.2, Nat.le_refl _, H.out.2.2.2.2.1, Nat.le_refl _, fun y h => by simp at h⟩
  case round =>
    obtain ⟨i, ti, ns, nv, mi, Ni, si, hg, rfl, rfl, hi, hMi, hNi, hGi, hrest, ht0, ht1, hN1, hP1, hnsl, hns⟩ := hrel
    have HB1 : Hid (Below w0.heap.size w0 wr) := (hGi.below H.out.2.1 fun k e => Nat.le_trans H.out.2.2.1 (H.out.1.low k e))
    by_cases hin : i < n
    · obtain ⟨x, hx⟩ : ∃ x, l[i]? = some x := ⟨_, List.getElem?_eq_getElem (by rw [← Hr.out.2.2]; exact hin)⟩
      obtain ⟨b', off, rfl, hb', hP⟩ := Hr.out.1.at (i := i) hin
      have hsx := Hr.out.2.1 i x hx
      obtain ⟨i0, i1, i2, i3, i4, i5, i6, i7, i8, i9, i10, i11, i12, i13⟩ := (hP x hx).later HB1.out hb'
      obtain ⟨W5, hW5⟩ : ∃ W5, W5 = wr.alloc (.cells #[.int .i64 x.kind, .string x.name, .int .i64 x.n, .int .i64 x.a.kind, .int .i64 x.a.n, .string x.a.name, .slice (oa i) (ma i) (ka i), .int .i64 x.b.kind, .int .i64 x.b.n, .string x.b.name, .slice (ob i) (mb i) (kb i), .slice (od i) (md i) (kd i), .slice (oe i) (me i) (ke i), .slice (oc i) (mc i) (kc i)] 56) := ⟨_, rfl⟩
      obtain ⟨Z, hZ⟩ : ∃ Z, Z = wr.heap.size := ⟨_, rfl⟩
      have hb5 : Below wr.heap.size wr W5 := by rw [hW5]; exact (Below.refl _ _).alloc (Nat.le_refl _) _
      have z5 : StAt W5 Z 0 x (.slice (oa i) (ma i) (ka i)) (.slice (ob i) (mb i) (kb i)) (.slice (od i) (md i) (kd i)) (.slice (oe i) (me i) (ke i)) (.slice (oc i) (mc i) (kc i)) := by rw [hW5, hZ]; exact StAt.box _ _ _ _ _ _ _ _
      have hin2 : (i : Int) < (n : Int) := by omega
      have hd1 : decide ((i : Int) < (n : Int)) = true := decide_eq_true hin2
      have hd2 : decide (i < n) = true := decide_eq_true hin
      have hdt := drop_tot hx
      have hrn := restO_next (F := F) hx si ti ns
      have H5 := Lib.hid (And.intro (hMi.later hb5) (And.intro (hNi.step (.of_below mi hb5)) (And.intro (hGi.trans (.of_below mi hb5)) (HB1.out.trans (hb5.mono HB1.out.size)))))
      have HW5 := Lib.hid (And.intro hW5 hZ)
      have Hi := Lib.hid (And.intro hg (And.intro (hrn.symm.trans hrest) (And.intro hsx (And.intro hx (And.intro hdt (And.intro hns hnsl))))))
      have Hb := Lib.hid (And.intro ht0 (And.intro ht1 (And.intro hN1 hP1)))
      have hZT : Hid (¬ mi.T Z) := fun e => by have := hMi.inT Z e; omega
      have Hxt := Lib.hid x.total_eq
      obtain ⟨j0, j1, j2, j3, j4, j5, j6, j7, j8, j9, j10, j11, j12, j13⟩ := z5
      simp only [Nat.zero_add] at j0 j1 j2 j3 j4 j5 j6 j7 j8 j9 j10 j11 j12 j13
      have qZ : Z < W5.heap.size := block_lt_of_cell j0
      clear hg hMi hNi hGi hrest hns hnsl ht0 ht1 hN1 hP1 hP hsx hW5 hZ hdt hrn hb5 hb' hi
      go_upto_region 6 with (fail)
      rw [← HW5.out.2, ← HW5.out.1]
      clear i0 i1 i2 i3 i4 i5 i6 i7 i8 i9 i10 i11 i12 i13
      have hx5 := H5.out.2.1.x0
      unfold ptrV at hx5
      have hsz : x.name.size ≤ maxLen := by have := Hi.out.2.2.1.1; unfold maxLen; omega
      by_cases hk1 : x.kind = 1
      · have q1 : (x.kind == 1) = true := by simp [hk1]
        obtain ⟨L, hL⟩ : ∃ L, L = x.a.gn si.V F si.code.length ti := ⟨_, rfl⟩
        have e1 := gns_let (F := F) (l := l.drop (i + 1)) hk1 si ti ns
        rw [Hi.out.2.1, ← hL] at e1
        have hlen : si.code.length + L.length ≤ 999999999000 := by
          have h1 := Hfin.out
          rw [e1, GS.out_len] at h1
          have h2 : (si.add L).code.length = si.code.length + L.length := GS.add_len _ _
          have h3 : ({ si.add L with V := si.V.put x.name ⟨ti, 0, 0⟩ } : GS).code.length = (si.add L).code.length := rfl
          omega
        have hxt := Hxt.out
        have hxp := x.a.total_part
        have hti : 0 ≤ ti ∧ ti + (x.a.total : Int) ≤ 1000000 := by have h1 := Hb.out.1; have h2 := Hb.out.2.1; have h3 := Hi.out.2.2.2.2.1; omega
        have hp := Hi.out.2.2.1.2.1 hk1 W5 B mi F Ni si ti H5.out.2.2.2 H.out.2.2.1 H5.out.1 hti.1 hti.2 (by rw [← hL]; exact hlen)
        rw [← hL] at hp
        unfold exVal at hp
        have Hp := Lib.hid hp
        have HL := Lib.hid (And.intro e1 hlen)
        have Hti : Hid (0 ≤ ti ∧ ti ≤ 1000000) := by show _ ∧ _; omega
        have hw1 : wrap64 (ti + 1) = ti + 1 := by unfold wrap64; omega
        clear hp hL e1 hlen hti hxt hxp hk1
        unfold ptrV at *
        go_wp2_with fail
        refine Hp.out.mono ?_
        rintro E w6 ⟨rfl, m6, hM6, hG6⟩
        have HN6 := Lib.hid (H5.out.2.1.step hG6)
        have x06 := HN6.out.x0
        have z16 := (hG6.cell (p := ⟨Z, 1, none⟩) qZ hZT.out).trans j1
        have H6 := Lib.hid (And.intro hM6 (And.intro (H5.out.2.2.1.trans hG6) (And.intro (hG6.block qZ hZT.out).2 (Nat.lt_of_lt_of_le qZ hG6.oth.size))))
        clear hM6 hG6 hx5 j0 j1 j2 j3 j4 j5 j6 j7 j8 j9 j10 j11 j12 j13 Hp
        unfold ptrV at x06
        have hfl6 : m6.f < w6.heap.size := by obtain ⟨S, hS⟩ := H6.out.1.funcs; exact hS.lt
        go_upto_region 10 with (fail)
        refine wp_region_heldZ (S := fun w => w.cell? ⟨X, 0, none⟩ = some (.pointer (some ⟨m6.b, 0, none⟩)) ∧ w.cell? ⟨m6.b, 2, none⟩ = some (.map (some m6.v)) ∧ w.cell? ⟨Z, 1, none⟩ = some (.string x.name)) (z := 8) rfl ?_
        change wpAnyZ _ _ _ _ _ _ _ _ _ w6.drew
        obtain ⟨W0, hW0⟩ : ∃ W0, W0 = w6.drew := ⟨_, rfl⟩
        rw [← hW0]
        have hb0 : Below w6.heap.size w6 W0 := by rw [hW0]; exact (Below.refl _ _).drew
        have HM0 := Lib.hid (And.intro (H6.out.1.later hb0) (And.intro (HN6.out.step (.of_below m6 hb0)) (And.intro hb0 (And.intro ((hb0.cell (p := ⟨Z, 1, none⟩) H6.out.2.2.2).trans z16) hfl6))))
        have Hb0 : Hid (W0.cell? ⟨X, 0, none⟩ = some (.pointer (some ⟨m6.b, 0, none⟩)) ∧ W0.cell? ⟨m6.b, 2, none⟩ = some (.map (some m6.v)) ∧ W0.cell? ⟨Z, 1, none⟩ = some (.string x.name)) := ⟨(hb0.cell (p := ⟨X, 0, none⟩) (block_lt_of_cell x06)).trans x06, HM0.out.1.c2, HM0.out.2.2.2.1⟩
        clear hb0 hW0 x06 z16 hfl6
        refine wpAnyZ_take (i := 0) (by simp only [List.getElem?_toArray, List.getElem?_cons_zero]; rfl) (by kernel_rfl) (by kernel_rfl) (by kernel_rfl) (by kernel_rfl) (by intro _ _ _ h; exact leaves_put rfl _ _ _ _ _ h) (Or.inl ⟨by rfl, fun w hw => by (obtain ⟨k0, k1, k2⟩ := hw; go_simp; try rfl)⟩) Hb0.out ?_
        refine wpAnyZ_take (i := 1) (by simp only [List.getElem?_toArray, List.getElem?_cons_succ, List.getElem?_cons_zero]; rfl) (by kernel_rfl) (by kernel_rfl) (by kernel_rfl) (by kernel_rfl) (by intro _ _ _ h; exact leaves_put rfl _ _ _ _ _ h) (Or.inl ⟨by rfl, fun w hw => by (obtain ⟨k0, k1, k2⟩ := hw; go_simp; try rfl)⟩) Hb0.out ?_
        go_frame
        refine wpAnyZ_take (i := 2) (by simp only [List.getElem?_toArray, List.getElem?_cons_succ, List.getElem?_cons_zero]; rfl) (by kernel_rfl) (by kernel_rfl) (by kernel_rfl) (by kernel_rfl) (by intro _ _ _ h; exact leaves_put rfl _ _ _ _ _ h) (Or.inl ⟨by rfl, fun w hw => by (obtain ⟨k0, k1, k2⟩ := hw; go_simp; try rfl)⟩) Hb0.out ?_
        refine wpAnyZ_take (i := 3) (by simp only [List.getElem?_toArray, List.getElem?_cons_succ, List.getElem?_cons_zero]; rfl) (by kernel_rfl) (by kernel_rfl) (by kernel_rfl) (by kernel_rfl) (by intro _ _ _ h; exact leaves_put rfl _ _ _ _ _ h) (Or.inl ⟨by rfl, fun w hw => by (obtain ⟨k0, k1, k2⟩ := hw; go_simp; try rfl)⟩) Hb0.out ?_
        go_frame
        refine wpAnyZ_take (i := 4) (by simp only [List.getElem?_toArray, List.getElem?_cons_succ, List.getElem?_cons_zero]; rfl) (by kernel_rfl) (by kernel_rfl) (by kernel_rfl) (by kernel_rfl) (by intro _ _ _ h; exact leaves_put rfl _ _ _ _ _ h) (Or.inl ⟨by rfl, fun w hw => by (obtain ⟨k0, k1, k2⟩ := hw; go_simp; try rfl)⟩) Hb0.out ?_
        refine wpAnyZ_take (i := 5) (by simp only [List.getElem?_toArray, List.getElem?_cons_succ, List.getElem?_cons_zero]; rfl) (by kernel_rfl) (by kernel_rfl) (by kernel_rfl) (by kernel_rfl) (by intro _ _ _ h; exact leaves_put rfl _ _ _ _ _ h) (Or.inl ⟨by rfl, fun w hw => by (obtain ⟨k0, k1, k2⟩ := hw; go_simp; try rfl)⟩) Hb0.out ?_
        go_frame
        refine wpAnyZ_take (i := 6) (by simp only [List.getElem?_toArray, List.getElem?_cons_succ, List.getElem?_cons_zero]; rfl) (by kernel_rfl) (by kernel_rfl) (by kernel_rfl) (by kernel_rfl) (by intro _ _ _ h; exact leaves_put rfl _ _ _ _ _ h) (Or.inl ⟨by rfl, fun w hw => by (obtain ⟨k0, k1, k2⟩ := hw; go_simp; try rfl)⟩) Hb0.out ?_
        refine wpAnyZ_take (i := 7) (by simp only [List.getElem?_toArray, List.getElem?_cons_succ, List.getElem?_cons_zero]; rfl) (by kernel_rfl) (by kernel_rfl) (by kernel_rfl) (by kernel_rfl) (by intro _ _ _ h; exact leaves_put rfl _ _ _ _ _ h) (Or.inl ⟨by rfl, fun w hw => by (obtain ⟨k0, k1, k2⟩ := hw; go_simp; try rfl)⟩) Hb0.out ?_
        go_frame
        refine wpAnyZ_next (i := 8) (by kernel_rfl) (by simp only [List.getElem?_toArray, List.getElem?_cons_succ, List.getElem?_cons_zero]; rfl) (fun Kc hKc => ?_)
        obtain ⟨S, hS, hSn⟩ := HM0.out.1.vars
        have hN9 : Ni + 1 ≤ 1000000000 := by have h1 := Hb.out.2.2.1; have h2 := H.out.2.2.2.1; have h3 := Hi.out.2.2.2.2.1; have h4 := Hxt.out; omega
        obtain ⟨w8, hrun, hp8, hO8⟩ := hS.put (by omega) x.name hsz ⟨ti, 0, 0⟩
        have H8 := Lib.hid (HM0.out.1.putV hO8 hp8 (N' := Ni + 1) (by have := insS_len S x.name; omega) (fun z => by
          unfold GEnv.put
          split
          · have := Hti.out; show 0 ≤ ti ∧ ti ≤ 1000000000000; omega
          · exact HM0.out.1.vreg z))
        have HN8 := Lib.hid (HM0.out.2.1.step H8.out.2)
        have HG8 := Lib.hid (H6.out.2.1.trans ((GStep.of_below m6 HM0.out.2.2.1).trans H8.out.2))
        have z18 := (H8.out.2.cell (p := ⟨Z, 1, none⟩) (Nat.lt_of_lt_of_le H6.out.2.2.2 HM0.out.2.2.1.size) H6.out.2.2.1).trans HM0.out.2.2.2.1
        have Hf8 : Hid (m6.f < w8.heap.size) := Nat.lt_of_lt_of_le HM0.out.2.2.2.2 (Nat.le_trans HM0.out.2.2.1.size H8.out.2.oth.size)
        unfold plcV at hrun
        clear hS hSn hp8 hO8
        go_simp
        refine hKc.out _ _ (fun h => absurd rfl h) ?_
        clear hKc Kc hrun
        refine wpAnyZ_done (by kernel_rfl) ?_ _
        have x08 := HN8.out.x0
        have y08 := HN8.out.y0
        have y08f := HN8.out.yf
        have hnsl : ns.length ≤ 1000000000000 := by have h1 := Hi.out.2.2.2.2.2.2; omega
        have hCl : C ≤ w8.heap.size := by have h1 := H2.out.2.2.1.2.2; have h2 := block_lt_of_cell y08; exact Nat.le_of_lt (Nat.lt_of_le_of_lt h1 h2)
        unfold ptrV at x08
        go_upto_region 12 with (at_builtin; refine append_str_at rfl _ _ rfl C nv ns rfl HN8.out.own x.name rfl hnsl hCl ?_; intro v9 w9 hown9 hO9 hf9; obtain ⟨a9, n9, c9, rfl⟩ := row_shape hown9; have HG9 := Lib.hid (HN8.out.more H8.out.1 hown9 hO9 hf9 Hf8.out); clear hown9 hO9 hf9; have g0 := HG9.out.1.1; have g1 := HG9.out.1.2)
        obtain ⟨w10, hw10⟩ : ∃ w, w = w9.setCell ⟨Y, 0, none⟩ (.slice a9 n9 c9) := ⟨_, rfl⟩
        rw [← hw10]
        have HG10 : Hid (NmAt w10 C m6 X Y (.slice a9 n9 c9) (ns ++ [x.name]) ∧ MkAt w10 B m6 F (Ni + 1) { si.add L with V := si.V.put x.name ⟨ti, 0, 0⟩ } ∧ GStep W m w10 m6) := by
          rw [hw10]
          exact ⟨HG9.out.2.1, HG9.out.2.2.1, HG8.out.fresh HG9.out.2.2.2 fun k e => by
            have h1 := H2.out.2.2.1.2
            rcases e with e | e
            · have := h1.2; have h3 := h1.1; omega
            · have := (World.ownsRow.lt HN8.out.own k e).1; have h3 := h1.1; omega⟩
        clear hw10 g0 g1 x08 y08 y08f z18
        go_wp2_with fail
        go_roundg (n - (i + 1))
        case measure => have := Hi.out.1; omega
        case rel => exact ⟨i + 1, ti + 1, ns ++ [x.name], .slice a9 n9 c9, m6, Ni + 1, { si.add L with V := si.V.put x.name ⟨ti, 0, 0⟩ }, rfl, by go_num, rfl, hin, HG10.out.2.1, HG10.out.1, HG10.out.2.2, HL.out.1.symm, by have := Hti.out; omega, by have h1 := Hb.out.2.1; have h2 := Hi.out.2.2.2.2.1; have h3 := Hxt.out; omega, by have h1 := Hb.out.2.2.1; have h2 := Hi.out.2.2.2.2.1; have h3 := Hxt.out; omega, by
            have h1 := Hb.out.2.2.2
            have h2 := Hi.out.2.2.2.2.1
            show si.pats.length + _ ≤ _
            omega, by have := Hi.out.2.2.2.2.2.2; simp; omega, fun y hy => by
              rcases List.mem_append.1 hy with hy | hy
              · exact Hi.out.2.2.2.2.2.1 y hy
              · simp at hy; subst hy; exact Hi.out.2.2.1.1⟩
      · by_cases hk2 : x.kind = 2
        · have q1 : (x.kind == 1) = false := by simp [hk1]
          have q2 : (x.kind == 2) = true := by simp [hk2]
          have e1 := gns_array (F := F) (l := l.drop (i + 1)) hk2 si ti ns
          rw [Hi.out.2.1] at e1
          have HL := Lib.hid e1
          have Hti : Hid (0 ≤ ti ∧ ti ≤ 1000000) := by show _ ∧ _; have h1 := Hb.out.1; have h2 := Hb.out.2.1; omega
          have hfl6 : mi.f < W5.heap.size := by obtain ⟨S, hS⟩ := H5.out.1.funcs; exact hS.lt
          have c4 := H5.out.1.c4
          clear e1 hk1 hk2
          go_upto_region 14 with (fail)
          clear j0 j3 j4 j5 j6 j7 j8 j9 j10 j11 j12 j13
          refine wp_region_heldZ (S := fun w => w.cell? ⟨X, 0, none⟩ = some (.pointer (some ⟨mi.b, 0, none⟩)) ∧ w.cell? ⟨mi.b, 2, none⟩ = some (.map (some mi.v)) ∧ w.cell? ⟨Z, 1, none⟩ = some (.string x.name) ∧ w.cell? ⟨Z, 2, none⟩ = some (.int .i64 x.n) ∧ w.cell? ⟨mi.b, 4, none⟩ = some (.int .i64 si.words)) (z := 13) rfl ?_
          change wpAnyZ _ _ _ _ _ _ _ _ _ W5.drew
          obtain ⟨W0, hW0⟩ : ∃ W0, W0 = W5.drew := ⟨_, rfl⟩
          rw [← hW0]
          have hb0 : Below W5.heap.size W5 W0 := by rw [hW0]; exact (Below.refl _ _).drew
          have HM0 := Lib.hid (And.intro (H5.out.1.later hb0) (And.intro (H5.out.2.1.step (.of_below mi hb0)) (And.intro hb0 (And.intro (And.intro ((hb0.cell (p := ⟨Z, 1, none⟩) qZ).trans j1) ((hb0.cell (p := ⟨Z, 2, none⟩) qZ).trans j2)) hfl6))))
          have Hb0 : Hid (W0.cell? ⟨X, 0, none⟩ = some (.pointer (some ⟨mi.b, 0, none⟩)) ∧ W0.cell? ⟨mi.b, 2, none⟩ = some (.map (some mi.v)) ∧ W0.cell? ⟨Z, 1, none⟩ = some (.string x.name) ∧ W0.cell? ⟨Z, 2, none⟩ = some (.int .i64 x.n) ∧ W0.cell? ⟨mi.b, 4, none⟩ = some (.int .i64 si.words)) := ⟨(hb0.cell (p := ⟨X, 0, none⟩) (block_lt_of_cell hx5)).trans hx5, HM0.out.1.c2, HM0.out.2.2.2.1.1, HM0.out.2.2.2.1.2, HM0.out.1.c4⟩
          clear hb0 hW0 hx5 j1 j2 hfl6 c4
          refine wpAnyZ_take (i := 0) (by simp only [List.getElem?_toArray, List.getElem?_cons_zero]; rfl) (by kernel_rfl) (by kernel_rfl) (by kernel_rfl) (by kernel_rfl) (by intro _ _ _ h; exact leaves_put rfl _ _ _ _ _ h) (Or.inl ⟨by rfl, fun w hw => by (obtain ⟨k0, k1, k2, k3, k4⟩ := hw; go_simp; try rfl)⟩) Hb0.out ?_
          refine wpAnyZ_take (i := 1) (by simp only [List.getElem?_toArray, List.getElem?_cons_succ, List.getElem?_cons_zero]; rfl) (by kernel_rfl) (by kernel_rfl) (by kernel_rfl) (by kernel_rfl) (by intro _ _ _ h; exact leaves_put rfl _ _ _ _ _ h) (Or.inl ⟨by rfl, fun w hw => by (obtain ⟨k0, k1, k2, k3, k4⟩ := hw; go_simp; try rfl)⟩) Hb0.out ?_
          go_frame
          refine wpAnyZ_take (i := 2) (by simp only [List.getElem?_toArray, List.getElem?_cons_succ, List.getElem?_cons_zero]; rfl) (by kernel_rfl) (by kernel_rfl) (by kernel_rfl) (by kernel_rfl) (by intro _ _ _ h; exact leaves_put rfl _ _ _ _ _ h) (Or.inl ⟨by rfl, fun w hw => by (obtain ⟨k0, k1, k2, k3, k4⟩ := hw; go_simp; try rfl)⟩) Hb0.out ?_
          refine wpAnyZ_take (i := 3) (by simp only [List.getElem?_toArray, List.getElem?_cons_succ, List.getElem?_cons_zero]; rfl) (by kernel_rfl) (by kernel_rfl) (by kernel_rfl) (by kernel_rfl) (by intro _ _ _ h; exact leaves_put rfl _ _ _ _ _ h) (Or.inl ⟨by rfl, fun w hw => by (obtain ⟨k0, k1, k2, k3, k4⟩ := hw; go_simp; try rfl)⟩) Hb0.out ?_
          go_frame
          refine wpAnyZ_take (i := 4) (by simp only [List.getElem?_toArray, List.getElem?_cons_succ, List.getElem?_cons_zero]; rfl) (by kernel_rfl) (by kernel_rfl) (by kernel_rfl) (by kernel_rfl) (by intro _ _ _ h; exact leaves_put rfl _ _ _ _ _ h) (Or.inl ⟨by rfl, fun w hw => by (obtain ⟨k0, k1, k2, k3, k4⟩ := hw; go_simp; try rfl)⟩) Hb0.out ?_
          refine wpAnyZ_take (i := 5) (by simp only [List.getElem?_toArray, List.getElem?_cons_succ, List.getElem?_cons_zero]; rfl) (by kernel_rfl) (by kernel_rfl) (by kernel_rfl) (by kernel_rfl) (by intro _ _ _ h; exact leaves_put rfl _ _ _ _ _ h) (Or.inl ⟨by rfl, fun w hw => by (obtain ⟨k0, k1, k2, k3, k4⟩ := hw; go_simp; try rfl)⟩) Hb0.out ?_
          go_frame
          refine wpAnyZ_take (i := 6) (by simp only [List.getElem?_toArray, List.getElem?_cons_succ, List.getElem?_cons_zero]; rfl) (by kernel_rfl) (by kernel_rfl) (by kernel_rfl) (by kernel_rfl) (by intro _ _ _ h; exact leaves_put rfl _ _ _ _ _ h) (Or.inl ⟨by rfl, fun w hw => by (obtain ⟨k0, k1, k2, k3, k4⟩ := hw; go_simp; try rfl)⟩) Hb0.out ?_
          refine wpAnyZ_take (i := 7) (by simp only [List.getElem?_toArray, List.getElem?_cons_succ, List.getElem?_cons_zero]; rfl) (by kernel_rfl) (by kernel_rfl) (by kernel_rfl) (by kernel_rfl) (by intro _ _ _ h; exact leaves_put rfl _ _ _ _ _ h) (Or.inl ⟨by rfl, fun w hw => by (obtain ⟨k0, k1, k2, k3, k4⟩ := hw; go_simp; try rfl)⟩) Hb0.out ?_
          go_frame
          refine wpAnyZ_take (i := 8) (by simp only [List.getElem?_toArray, List.getElem?_cons_succ, List.getElem?_cons_zero]; rfl) (by kernel_rfl) (by kernel_rfl) (by kernel_rfl) (by kernel_rfl) (by intro _ _ _ h; exact leaves_put rfl _ _ _ _ _ h) (Or.inl ⟨by rfl, fun w hw => by (obtain ⟨k0, k1, k2, k3, k4⟩ := hw; go_simp; try rfl)⟩) Hb0.out ?_
          refine wpAnyZ_take (i := 9) (by simp only [List.getElem?_toArray, List.getElem?_cons_succ, List.getElem?_cons_zero]; rfl) (by kernel_rfl) (by kernel_rfl) (by kernel_rfl) (by kernel_rfl) (by intro _ _ _ h; exact leaves_put rfl _ _ _ _ _ h) (Or.inl ⟨by rfl, fun w hw => by (obtain ⟨k0, k1, k2, k3, k4⟩ := hw; go_simp; try rfl)⟩) Hb0.out ?_
          go_frame
          refine wpAnyZ_take (i := 10) (by simp only [List.getElem?_toArray, List.getElem?_cons_succ, List.getElem?_cons_zero]; rfl) (by kernel_rfl) (by kernel_rfl) (by kernel_rfl) (by kernel_rfl) (by intro _ _ _ h; exact leaves_put rfl _ _ _ _ _ h) (Or.inl ⟨by rfl, fun w hw => by (obtain ⟨k0, k1, k2, k3, k4⟩ := hw; go_simp; try rfl)⟩) Hb0.out ?_
          refine wpAnyZ_take (i := 11) (by simp only [List.getElem?_toArray, List.getElem?_cons_succ, List.getElem?_cons_zero]; rfl) (by kernel_rfl) (by kernel_rfl) (by kernel_rfl) (by kernel_rfl) (by intro _ _ _ h; exact leaves_put rfl _ _ _ _ _ h) (Or.inl ⟨by rfl, fun w hw => by (obtain ⟨k0, k1, k2, k3, k4⟩ := hw; go_simp; try rfl)⟩) Hb0.out ?_
          go_frame
          refine wpAnyZ_take (i := 12) (by simp only [List.getElem?_toArray, List.getElem?_cons_succ, List.getElem?_cons_zero]; rfl) (by kernel_rfl) (by kernel_rfl) (by kernel_rfl) (by kernel_rfl) (by intro _ _ _ h; exact leaves_put rfl _ _ _ _ _ h) (Or.inl ⟨by rfl, fun w hw => by (obtain ⟨k0, k1, k2, k3, k4⟩ := hw; go_simp; try rfl)⟩) Hb0.out ?_
          go_frame
          refine wpAnyZ_next (i := 13) (by kernel_rfl) (by simp only [List.getElem?_toArray, List.getElem?_cons_succ, List.getElem?_cons_zero]; rfl) (fun Kc hKc => ?_)
          obtain ⟨S, hS, hSn⟩ := HM0.out.1.vars
          have hN9 : Ni + 1 ≤ 1000000000 := by have h1 := Hb.out.2.2.1; have h2 := H.out.2.2.2.1; have h3 := Hi.out.2.2.2.2.1; have h4 := Hxt.out; omega
          obtain ⟨w7, hrun, hp7, hO7⟩ := hS.put (by omega) x.name hsz ⟨0, si.words, x.n⟩
          have H7 := Lib.hid (HM0.out.1.putV hO7 hp7 (N' := Ni + 1) (by have := insS_len S x.name; omega) (fun z => by
            unfold GEnv.put
            split
            · show (0 : Int) ≤ 0 ∧ (0 : Int) ≤ 1000000000000; decide
            · exact HM0.out.1.vreg z))
          have HN7 := Lib.hid (HM0.out.2.1.step H7.out.2)
          have HG7 := Lib.hid (H5.out.2.2.1.trans ((GStep.of_below mi HM0.out.2.2.1).trans H7.out.2))
          have qz0 : Z < W0.heap.size := Nat.lt_of_lt_of_le qZ HM0.out.2.2.1.size
          have z17 := (H7.out.2.cell (p := ⟨Z, 1, none⟩) qz0 hZT.out).trans HM0.out.2.2.2.1.1
          have z27 := (H7.out.2.cell (p := ⟨Z, 2, none⟩) qz0 hZT.out).trans HM0.out.2.2.2.1.2
          have Hf7 : Hid (mi.f < w7.heap.size ∧ Z < w7.heap.size) := ⟨Nat.lt_of_lt_of_le HM0.out.2.2.2.2 (Nat.le_trans HM0.out.2.2.1.size H7.out.2.oth.size), block_lt_of_cell z17⟩
          unfold plcV at hrun
          clear hS hSn hp7 hO7
          go_simp
          refine hKc.out _ _ (fun h => absurd rfl h) ?_
          clear hKc Kc hrun
          refine wpAnyZ_done (by kernel_rfl) ?_ _
          have x07 := HN7.out.x0
          unfold ptrV at x07
          go_upto_region 15 with (fail)
          refine wp_region_heldZ (S := fun w => w.cell? ⟨X, 0, none⟩ = some (.pointer (some ⟨mi.b, 0, none⟩)) ∧ w.cell? ⟨Z, 2, none⟩ = some (.int .i64 x.n) ∧ w.cell? ⟨mi.b, 4, none⟩ = some (.int .i64 si.words)) (z := 9) rfl ?_
          change wpAnyZ _ _ _ _ _ _ _ _ _ w7.drew
          obtain ⟨W2', hW2'⟩ : ∃ W, W = w7.drew := ⟨_, rfl⟩
          rw [← hW2']
          have hb2' : Below w7.heap.size w7 W2' := by rw [hW2']; exact (Below.refl _ _).drew
          have HM2 := Lib.hid (And.intro (H7.out.1.later hb2') (And.intro (HN7.out.step (.of_below mi hb2')) (And.intro hb2' ((hb2'.cell (p := ⟨Z, 1, none⟩) Hf7.out.2).trans z17))))
          have Hb2 : Hid (W2'.cell? ⟨X, 0, none⟩ = some (.pointer (some ⟨mi.b, 0, none⟩)) ∧ W2'.cell? ⟨Z, 2, none⟩ = some (.int .i64 x.n) ∧ W2'.cell? ⟨mi.b, 4, none⟩ = some (.int .i64 si.words)) := ⟨HM2.out.2.1.x0, (hb2'.cell (p := ⟨Z, 2, none⟩) Hf7.out.2).trans z27, HM2.out.1.c4⟩
          clear hb2' hW2' x07 z17 z27
          refine wpAnyZ_take (i := 0) (by simp only [List.getElem?_toArray, List.getElem?_cons_zero]; rfl) (by kernel_rfl) (by kernel_rfl) (by kernel_rfl) (by kernel_rfl) (by intro _ _ _ h; exact leaves_put rfl _ _ _ _ _ h) (Or.inl ⟨by rfl, fun w hw => by (obtain ⟨k0, k1, k2⟩ := hw; go_simp; try rfl)⟩) Hb2.out ?_
          refine wpAnyZ_take (i := 1) (by simp only [List.getElem?_toArray, List.getElem?_cons_succ, List.getElem?_cons_zero]; rfl) (by kernel_rfl) (by kernel_rfl) (by kernel_rfl) (by kernel_rfl) (by intro _ _ _ h; exact leaves_put rfl _ _ _ _ _ h) (Or.inl ⟨by rfl, fun w hw => by (obtain ⟨k0, k1, k2⟩ := hw; go_simp; try rfl)⟩) Hb2.out ?_
          go_frame
          refine wpAnyZ_take (i := 2) (by simp only [List.getElem?_toArray, List.getElem?_cons_succ, List.getElem?_cons_zero]; rfl) (by kernel_rfl) (by kernel_rfl) (by kernel_rfl) (by kernel_rfl) (by intro _ _ _ h; exact leaves_put rfl _ _ _ _ _ h) (Or.inl ⟨by rfl, fun w hw => by (obtain ⟨k0, k1, k2⟩ := hw; go_simp; try rfl)⟩) Hb2.out ?_
          refine wpAnyZ_take (i := 3) (by simp only [List.getElem?_toArray, List.getElem?_cons_succ, List.getElem?_cons_zero]; rfl) (by kernel_rfl) (by kernel_rfl) (by kernel_rfl) (by kernel_rfl) (by intro _ _ _ h; exact leaves_put rfl _ _ _ _ _ h) (Or.inl ⟨by rfl, fun w hw => by (obtain ⟨k0, k1, k2⟩ := hw; go_simp; try rfl)⟩) Hb2.out ?_
          go_frame
          refine wpAnyZ_take (i := 4) (by simp only [List.getElem?_toArray, List.getElem?_cons_succ, List.getElem?_cons_zero]; rfl) (by kernel_rfl) (by kernel_rfl) (by kernel_rfl) (by kernel_rfl) (by intro _ _ _ h; exact leaves_put rfl _ _ _ _ _ h) (Or.inl ⟨by rfl, fun w hw => by (obtain ⟨k0, k1, k2⟩ := hw; go_simp; try rfl)⟩) Hb2.out ?_
          refine wpAnyZ_take (i := 5) (by simp only [List.getElem?_toArray, List.getElem?_cons_succ, List.getElem?_cons_zero]; rfl) (by kernel_rfl) (by kernel_rfl) (by kernel_rfl) (by kernel_rfl) (by intro _ _ _ h; exact leaves_put rfl _ _ _ _ _ h) (Or.inl ⟨by rfl, fun w hw => by (obtain ⟨k0, k1, k2⟩ := hw; go_simp; try rfl)⟩) Hb2.out ?_
          go_frame
          refine wpAnyZ_take (i := 6) (by simp only [List.getElem?_toArray, List.getElem?_cons_succ, List.getElem?_cons_zero]; rfl) (by kernel_rfl) (by kernel_rfl) (by kernel_rfl) (by kernel_rfl) (by intro _ _ _ h; exact leaves_put rfl _ _ _ _ _ h) (Or.inl ⟨by rfl, fun w hw => by (obtain ⟨k0, k1, k2⟩ := hw; go_simp; try rfl)⟩) Hb2.out ?_
          go_frame
          refine wpAnyZ_next (i := 7) (by kernel_rfl) (by simp only [List.getElem?_toArray, List.getElem?_cons_succ, List.getElem?_cons_zero]; rfl) (fun Kc hKc => ?_)
          go_simp
          refine hKc.out _ _ (fun _ => Hb2.out) ?_
          clear hKc Kc
          try go_frame
          refine wpAnyZ_next (i := 8) (by kernel_rfl) (by simp only [List.getElem?_toArray, List.getElem?_cons_succ, List.getElem?_cons_zero]; rfl) (fun Kc hKc => ?_)
          go_simp
          refine hKc.out _ _ (fun _ => Hb2.out) ?_
          clear hKc Kc
          try go_frame
          refine wpAnyZ_next (i := 9) (by kernel_rfl) (by simp only [List.getElem?_toArray, List.getElem?_cons_succ, List.getElem?_cons_zero]; rfl) (fun Kc hKc => ?_)
          have c4 := HM2.out.1.c4
          have c4f := HM2.out.1.fr 4
          have H8 := Lib.hid (HM2.out.1.set4 (IntKind.i64.wrap (si.words + x.n)))
          have HN8 := Lib.hid (HM2.out.2.1.step H8.out.2)
          have HG8 := Lib.hid (HG7.out.trans ((GStep.of_below mi HM2.out.2.2.1).trans H8.out.2))
          obtain ⟨w8, hw8⟩ : ∃ w, w = W2'.setCell ⟨mi.b, 4, none⟩ (.int .i64 (IntKind.i64.wrap (si.words + x.n))) := ⟨_, rfl⟩
          rw [← hw8] at H8 HN8 HG8
          have qz7 : Z < W2'.heap.size := Nat.lt_of_lt_of_le Hf7.out.2 HM2.out.2.2.1.size
          have z18 := (H8.out.2.cell (p := ⟨Z, 1, none⟩) qz7 hZT.out).trans HM2.out.2.2.2
          have Hf8 : Hid (mi.f < w8.heap.size) := Nat.lt_of_lt_of_le Hf7.out.1 (Nat.le_trans HM2.out.2.2.1.size H8.out.2.oth.size)
          go_simp
          rw [← hw8]
          refine hKc.out _ _ (fun h => absurd rfl h) ?_
          clear hKc Kc hw8 c4 c4f
          refine wpAnyZ_done (by kernel_rfl) ?_ _
          have x08 := HN8.out.x0
          have y08 := HN8.out.y0
          have y08f := HN8.out.yf
          have hnsl : ns.length ≤ 1000000000000 := by have h1 := Hi.out.2.2.2.2.2.2; omega
          have hCl : C ≤ w8.heap.size := by have h1 := H2.out.2.2.1.2.2; have h2 := block_lt_of_cell y08; exact Nat.le_of_lt (Nat.lt_of_le_of_lt h1 h2)
          unfold ptrV at x08
          go_upto_region 17 with (at_builtin; refine append_str_at rfl _ _ rfl C nv ns rfl HN8.out.own x.name rfl hnsl hCl ?_; intro v9 w9 hown9 hO9 hf9; obtain ⟨a9, n9, c9, rfl⟩ := row_shape hown9; have HG9 := Lib.hid (HN8.out.more H8.out.1 hown9 hO9 hf9 Hf8.out); clear hown9 hO9 hf9; have g0 := HG9.out.1.1; have g1 := HG9.out.1.2)
          obtain ⟨w10, hw10⟩ : ∃ w, w = w9.setCell ⟨Y, 0, none⟩ (.slice a9 n9 c9) := ⟨_, rfl⟩
          rw [← hw10]
          have HG10 : Hid (NmAt w10 C mi X Y (.slice a9 n9 c9) (ns ++ [x.name]) ∧ MkAt w10 B mi F (Ni + 1) { si with V := si.V.put x.name ⟨0, si.words, x.n⟩, words := gw64 (si.words + x.n) } ∧ GStep W m w10 mi) := by
            rw [hw10]
            have hwr := HG9.out.2.2.1
            rw [show IntKind.i64.wrap (si.words + x.n) = gw64 (si.words + x.n) from IntWalk.i64_left _] at hwr
            exact ⟨HG9.out.2.1, hwr, HG8.out.fresh HG9.out.2.2.2 fun k e => by
              have h1 := H2.out.2.2.1.2
              rcases e with e | e
              · have := h1.2; have h3 := h1.1; omega
              · have := (World.ownsRow.lt HN8.out.own k e).1; have h3 := h1.1; omega⟩
          clear hw10 g0 g1 x08 y08 y08f z18
          go_wp2_with fail
          go_roundg (n - (i + 1))
          case measure => have := Hi.out.1; omega
          case rel => exact ⟨i + 1, ti, ns ++ [x.name], .slice a9 n9 c9, mi, Ni + 1, { si with V := si.V.put x.name ⟨0, si.words, x.n⟩, words := gw64 (si.words + x.n) }, rfl, by go_num, rfl, hin, HG10.out.2.1, HG10.out.1, HG10.out.2.2, HL.out.symm, Hti.out.1, by have h1 := Hb.out.2.1; have h2 := Hi.out.2.2.2.2.1; omega, by have h1 := Hb.out.2.2.1; have h2 := Hi.out.2.2.2.2.1; have h3 := Hxt.out; omega, by
              have h1 := Hb.out.2.2.2
              have h2 := Hi.out.2.2.2.2.1
              show si.pats.length + _ ≤ _
              omega, by have := Hi.out.2.2.2.2.2.2; simp; omega, fun y hy => by
                rcases List.mem_append.1 hy with hy | hy
                · exact Hi.out.2.2.2.2.2.1 y hy
                · simp at hy; subst hy; exact Hi.out.2.2.1.1⟩
        · have q1 : (x.kind == 1) = false := by simp [hk1]
          have q2 : (x.kind == 2) = false := by simp [hk2]
          have e1 := gns_other (F := F) (l := l.drop (i + 1)) hk1 hk2 si ti ns
          rw [Hi.out.2.1] at e1
          obtain ⟨o, ho⟩ : ∃ o, o = St.gn F x si.V si.words si.code.length ti := ⟨_, rfl⟩
          rw [← ho] at e1
          have hlen : si.code.length + o.code.length ≤ 999999999000 := by
            have h1 := Hfin.out
            rw [e1, GS.out_len, GS.out_len] at h1
            omega
          have hbk : o.brk.length ≤ x.total := by rw [ho]; exact St.gn_brk F x _ _ _ _
          have hdt := Hi.out.2.2.2.2.1
          have hp := Hi.out.2.2.1.2.2 hk1 hk2 W5 B mi F Ni si ti H5.out.2.2.2 H.out.2.2.1 H5.out.1 Hb.out.1 (by have := Hb.out.2.1; omega) (by have h1 := Hb.out.2.2.1; have h2 := H.out.2.2.2.1; omega) (by have h1 := Hb.out.2.2.2; omega) (by rw [← ho]; exact hlen)
          rw [← ho] at hp
          unfold stVal at hp
          have Hp := Lib.hid hp
          have HL := Lib.hid (And.intro e1 (And.intro hbk hdt))
          clear hp ho e1 hlen hbk hdt hk1 hk2
          unfold ptrV at *
          go_wp2_with fail
          refine Hp.out.mono ?_
          rintro E w6 ⟨rfl, m6, hM6, hG6⟩
          have H6 := Lib.hid (And.intro hM6 (And.intro (H5.out.2.1.step hG6) (H5.out.2.2.1.trans hG6)))
          clear hM6 hG6 hx5 j0 j1 j2 j3 j4 j5 j6 j7 j8 j9 j10 j11 j12 j13 Hp
          go_wp2_with fail
          go_roundg (n - (i + 1))
          case measure => have := Hi.out.1; omega
          case rel => exact ⟨i + 1, ti, ns, nv, m6, Ni + x.total, si.out o, rfl, by go_num, rfl, hin, H6.out.1, H6.out.2.1, H6.out.2.2, HL.out.1.symm, Hb.out.1, by have h1 := Hb.out.2.1; have h2 := HL.out.2.2; omega, by have h1 := Hb.out.2.2.1; have h2 := HL.out.2.2; omega, by
              have h1 := Hb.out.2.2.2
              have h2 := HL.out.2.2
              have h3 : (si.out o).pats.length = si.pats.length + o.brk.length := by simp [GS.out]
              have h4 := HL.out.2.1
              omega, by have := Hi.out.2.2.2.2.2.2; omega, Hi.out.2.2.2.2.2.1⟩
    · obtain rfl : n = i := by omega
      have hfe : restO F l n si ti ns = { si with V := si.V.del ns } := by
        unfold restO
        rw [List.drop_eq_nil_of_le (by rw [← Hr.out.2.2]; exact Nat.le_refl _), gns_nil]
      have Hi := Lib.hid (And.intro hMi (And.intro hNi (And.intro hGi (And.intro (hfe.symm.trans (hrest.trans H2.out.2.2.2)) (And.intro hns (And.intro hnsl (by have : St.totals (l.drop n) ≥ 0 := Nat.zero_le _; omega : Ni ≤ N + St.totals l)))))))
      clear hin hMi hNi hGi hrest hns hnsl hfe ht0 ht1 hN1 hP1 hg hi
      go_wp2_with fail
      have hNm := Hi.out.2.1
      have hnn : ns.length ≤ 1000000000 := Nat.le_trans Hi.out.2.2.2.2.2.1 (by have := Hr.out.2.2; have h1 := H.out.2.2.2.1; have h2 := len_totS l; omega)
      refine leaves_cons (f := 21) (args := #[.pointer (some ⟨Y, 0, none⟩), .pointer (some ⟨X, 0, none⟩)]) (by simp) (by simp [go_sem]) ?_
      refine (dels_any .returning Y X C nv ns Hi.out.2.2.2.2.1 wr B mi F Ni si Hi.out.1 hNm.own (fun k e e2 => (hNm.nv k e).1 (.inr (.inl e2))) hnn hNm.y0 hNm.x0 (fun e => hNm.nx (.inr (.inl e)))).mono ?_
      rintro E u' w' ⟨rfl, rfl, hM, hG⟩
      refine ⟨_, results_none rfl _ _ _, rfl, mi, ?_, Hi.out.2.2.1.trans hG⟩
      rw [Hi.out.2.2.2.1] at hM
      exact hM.mono Hi.out.2.2.2.2.2.2
end Go.Proofs.YtgobcldecokppaaDoor
