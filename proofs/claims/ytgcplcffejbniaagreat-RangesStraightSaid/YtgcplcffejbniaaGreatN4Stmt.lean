/- R4's look at names: a statement whose lists' contracts are known. -/
import Derived.Test.YtgcplcffejbniaaGreatN4Head
namespace Go.Proofs.YtgcplcffejbniaaGreat
open Go.RowKit Go.Maps

def R4LPost (W W' : World) (c bs : Nat) (vw vf kv : Value) (K : Known) (k n loops e : Int) (N : Nat) (C : List Int) (G : List ByteArray) (r : Nat × Int) (ns : List ByteArray) : Prop :=
  ∃ (kv' : Value) (C' : List Int), RAt W' c bs vw vf kv' K k (n + goN e r.1) loops (keepE e r.2) N C' ∧ WStep W W' c bs bs kv kv' ∧ (e = 0 → r.2 = 0 → ∀ z, z ∈ C' ↔ z ∈ C ∨ idxs G ns z)
def R4SPost (W W' : World) (c bs : Nat) (vw vf kv : Value) (K : Known) (k n loops : Int) (N : Nat) (C : List Int) (G : List ByteArray) (r : Nat × Int) (Kz : Known) (ns : List ByteArray) : Prop :=
  ∃ (kv' : Value) (D : Known) (C' : List Int), RAt W' c bs vw vf kv' (K ++ D) k (n + (r.1 : Int)) loops r.2 N C' ∧ WStep W W' c bs bs kv kv' ∧ D.length ≤ 1 ∧ (r.2 = 0 → K ++ D = Kz ∧ ∀ z, z ∈ C' ↔ z ∈ C ∨ idxs G ns z)
def R4ListOk (w0 : World) (F : List Fn) (vf : Value) (k : Nat) (l : List St) (v : Value) : Prop := St.fines l → ∀ (W : World) (c bs : Nat) (vw kv : Value) (K : Known) (n loops e : Int) (C : List Int), Below w0.heap.size w0 W → w0.heap.size ≤ bs → RAt W c bs vw vf kv K (k : Int) n loops e F.length C →
  0 ≤ n → n + (St.totals l : Int) ≤ 1000000 → 0 ≤ loops → loops + (St.totals l : Int) ≤ 1000000 → K.length + St.totals l ≤ 90000 →
  Calls Tryz.prog 48 #[ptrV c, v] W (fun E W' => E = .returned (.tuple #[]) ∧ R4LPost W W' c bs vw vf kv K (k : Int) n loops e F.length C (gAt F k) (St.nchks K (gAt F k) loops l) (St.ncallss l))
theorem RAt.to {w : World} {c bs : Nat} {vw vf kv : Value} {K K' : Known} {fn n n' loops loops' e e' : Int} {N : Nat} {C : List Int} (h : RAt w c bs vw vf kv K fn n loops e N C) (h1 : K = K') (h2 : n = n') (h3 : loops = loops') (h4 : e = e') : RAt w c bs vw vf kv K' fn n' loops' e' N C := by subst h1; subst h2; subst h3; subst h4; exact h
theorem RAt.after {w : World} {c bs : Nat} {vw vf kv : Value} {K : Known} {fn n loops : Int} {N : Nat} {C : List Int} {r q : Nat × Int} (h : RAt w c bs vw vf kv K fn (n + (r.1 : Int) + goN r.2 q.1) loops (keepE r.2 q.2) N C) : RAt w c bs vw vf kv K fn (n + ((after r q).1 : Int)) loops (after r q).2 N C := by
  by_cases he : r.2 = 0
  · rw [after_ok he]
    rw [he, goN_zero, keepE_zero] at h
    exact h.to rfl (by simp only; omega) rfl rfl
  · rw [after_err he]
    rw [goN_no he, keepE_no he] at h
    exact h.to rfl (by omega) rfl rfl
theorem RAt.putN {w : World} {c bs : Nat} {vw vf kv : Value} {K : Known} {fn n loops e : Int} {N : Nat} {C : List Int} (h : RAt w c bs vw vf kv K fn n loops e N C) (z : Int) : RAt (w.setCell ⟨c, 3, none⟩ (.int .i64 z)) c bs vw vf kv K fn z loops e N C := h.put 3 (.inl rfl) z
theorem RAt.putL {w : World} {c bs : Nat} {vw vf kv : Value} {K : Known} {fn n loops e : Int} {N : Nat} {C : List Int} (h : RAt w c bs vw vf kv K fn n loops e N C) (z : Int) : RAt (w.setCell ⟨c, 4, none⟩ (.int .i64 z)) c bs vw vf kv K fn n z e N C := h.put 4 (.inr (.inl rfl)) z
/-- The list of what is known is cut. -/
theorem RAt.cut {w : World} {c bs : Nat} {vw vf : Value} {a : Option Addr} {m cap : Nat} {K : Known} {fn n loops e : Int} {N : Nat} {C : List Int} (h : RAt w c bs vw vf (.slice a m cap) K fn n loops e N C) {j : Nat} (hj : j ≤ K.length) : RAt (w.setCell ⟨c, 5, none⟩ (.slice a j cap)) c bs vw vf (.slice a j cap) (K.take j) fn n loops e N C :=
  h.putKnown (Oth.refl (fun _ => False) w) (fun h => h) (fun h => h) (h.known.take hj) fun p hp => h.kinds p (List.mem_of_mem_take hp)
theorem WStep.cut {w : World} {c bs : Nat} {a : Option Addr} {m cap j : Nat} : WStep w (w.setCell ⟨c, 5, none⟩ (.slice a j cap)) c bs bs (.slice a m cap) (.slice a j cap) :=
  ⟨(Oth.refl _ _).set (p := ⟨c, 5, none⟩) (.inr (.inl rfl)) _, fun _ _ h => by cases a <;> exact h⟩
/-- A statement that has no lists. -/
theorem St.nchk_bare {K : Known} {G : List ByteArray} {loops : Int} {x : St} (hf : x.fine) (h5 : x.kind ≠ 5) (h6 : x.kind ≠ 6) (h7 : x.kind ≠ 7) : x.nchk K G loops = after (1, x.nfirst K G loops) (if (x.kind = 1 ∨ x.kind = 2) ∧ kindOf K x.name ≠ 0 then (0, 9) else (0, 0)) ∧ x.ncalls = x.nownc := by
  have hp := St.formed_parts (St.own_formed ((St.fine_eq x).1 hf).1).1
  have hb : x.body = [] := by
    rcases hp.2.2.2.2.1 with h | h
    · unfold cntBody at h; simp at h; omega
    · exact h
  have he : x.els = [] := by
    rcases hp.2.2.2.2.2.1 with h | h
    · unfold cntElse at h; simp at h; omega
    · exact h
  have hc : x.cases = [] := by
    rcases hp.2.2.2.2.2.2 with h | h
    · unfold cntCases at h; simp at h; omega
    · exact h
  constructor
  · rw [St.nchk_eq, if_neg h7, hb, he, hc]
    simp only [St.nchks, Cs.nchks, after_zero]
  · rw [St.ncalls_eq, hb, he, hc]
    simp [St.ncallss, Cs.ncallss]
set_option maxRecDepth 100000 in
set_option maxHeartbeats 8000000 in
theorem r4stmt_row (x : St) (aa ab ad ae ac : Option Addr) (na nb nd ne nc ca cb cd ce cc : Nat) (vk : Nat → Value) (F : List Fn) (vf : Value) (k : Nat) (w0 : World) (hnc : nc = x.cases.length)
    (hnc62 : nc ≤ 9223372036854775807) (fa : R4ExprOk w0 F vf k x.a.args (.slice aa na ca)) (fb : R4ExprOk w0 F vf k x.b.args (.slice ab nb cb)) (fd : R4ListOk w0 F vf k x.body (.slice ad nd cd)) (fe : R4ListOk w0 F vf k x.els (.slice ae ne ce))
    (fc : RowOf w0 (.slice ac nc cc) nc 2 (fun b o k => ∀ y, x.cases[k]? = some y → CsAt w0 b o y (vk k))) (fk : ∀ (j : Nat) y, x.cases[j]? = some y → StsIn w0 y.body (vk j) ∧ R4ListOk w0 F vf k y.body (vk j)) (hf : x.fine)
    (W : World) (c bs : Nat) (vw kv : Value) (K : Known) (n loops : Int) (C : List Int) (hB : Below w0.heap.size w0 W) (hcb : w0.heap.size ≤ bs) (hK : RAt W c bs vw vf kv K (k : Int) n loops 0 F.length C)
    (hn0 : 0 ≤ n) (hn1 : n + (x.total : Int) ≤ 1000000) (hl0 : 0 ≤ loops) (hl1 : loops + (x.total : Int) ≤ 1000000) (hkl : K.length + x.total ≤ 90000) :
    Calls Tryz.prog 71 #[ptrV c, stVal x (.slice aa na ca) (.slice ab nb cb) (.slice ad nd cd) (.slice ae ne ce) (.slice ac nc cc)] W (fun E W' => E = .returned (.tuple #[]) ∧ R4SPost W W' c bs vw vf kv K (k : Int) n loops F.length C (gAt F k) (x.nchk K (gAt F k) loops) (x.nadd K) x.ncalls) := by
  have hff := (St.fine_eq x).1 hf
  have Hf := Lib.hid (And.intro hf hff)
  have Hy := Lib.hid (And.intro fa (And.intro fb (And.intro fd (And.intro fe (And.intro fc fk)))))
  have Hnc := Lib.hid hnc
  have Hxt : Hid (x.total = 1 + x.a.part + x.b.part + St.totals x.body + Cs.totals x.cases + St.totals x.els) := x.total_eq
  have Hbd := Lib.hid (And.intro hn1 (And.intro hl1 hkl))
  have hm1 : n ≤ 999999 := by have := Hxt.out; omega
  have hm2 : loops ≤ 999999 := by have := Hxt.out; omega
  have hm3 : K.length ≤ 89999 := by have := Hxt.out; omega
  obtain ⟨G, hG⟩ : ∃ G, G = gAt F k := ⟨_, rfl⟩
  rw [← hG]
  have HG := Lib.hid hG
  obtain ⟨N, hN⟩ : ∃ N, N = F.length := ⟨_, rfl⟩
  rw [← hN]
  rw [← hN] at hK
  have HN := Lib.hid hN
  obtain ⟨W1, hW1⟩ : ∃ W1, W1 = W.alloc (.cells #[.int .i64 x.kind, .string x.name, .int .i64 x.n, .int .i64 x.a.kind, .int .i64 x.a.n, .string x.a.name, .slice aa na ca, .int .i64 x.b.kind, .int .i64 x.b.n, .string x.b.name, .slice ab nb cb, .slice ad nd cd, .slice ae ne ce, .slice ac nc cc] 43) := ⟨_, rfl⟩
  have hb1 : Below W.heap.size W W1 := by rw [hW1]; exact (Below.refl _ _).alloc (Nat.le_refl _) _
  have hv1 : StAt W1 W.heap.size 0 x (.slice aa na ca) (.slice ab nb cb) (.slice ad nd cd) (.slice ae ne ce) (.slice ac nc cc) := by rw [hW1]; exact StAt.box _ _ _ _ _ _ _ _
  have hk1 := hK.later hb1
  have q1 : W.heap.size < W1.heap.size := block_lt_of_cell hv1.c0
  have ql := hK.lt
  have qc := hK.in
  have HnotD : Hid (¬ WT c bs bs kv W.heap.size) := not_wt (by omega) (by omega) (by omega) (fun j e => (hK.own j e).2)
  obtain ⟨W2, hW2⟩ : ∃ W2, W2 = W1.setCell ⟨c, 3, none⟩ (.int .i64 (n + 1)) := ⟨_, rfl⟩
  have hk2 : RAt W2 c bs vw vf kv K (k : Int) (n + 1) loops 0 N C := by rw [hW2]; exact hk1.putN _
  have hs2 : WStep W1 W2 c bs bs kv kv := by rw [hW2]; exact .set _ _
  have hv2 := hv1.oth hs2.oth q1 HnotD.out
  have c3 := hk1.c3
  have f3 := hk1.f 3 (by decide)
  have HB1 : Hid (Below w0.heap.size w0 W1) := hB.trans (hb1.mono hB.size)
  have HB2 : Hid (Below w0.heap.size w0 W2) := hs2.below4 hk1 HB1.out hcb
  have H1 := Lib.hid (And.intro hb1 (And.intro hv1 hk1))
  have H2 := Lib.hid (And.intro hk2 (And.intro hs2 hv2))
  have HW1 := Lib.hid hW1
  have HW2 := Lib.hid hW2
  unfold stVal
  clear fa fb fd fe fc fk hf hff hnc hn1 hl1 hkl hB hK hG hN hW1 hb1 hv1 hk1 hW2 hk2 hs2 hv2
  go_enter Tryz.func71, Tryz.ntmps71
  go_upto_region 1 with (fail)
  rw [← HW1.out]
  go_upto_region 2 with (fail)
  rw [← HW2.out]
  obtain ⟨i0, i1, i2, i3, i4, i5, i6, i7, i8, i9, i10, i11, i12, i13⟩ := H2.out.2.2
  simp only [Nat.zero_add] at i1 i2 i3 i4 i5 i6 i7 i8 i9 i10 i11 i12 i13
  have Hhead := Lib.hid (r4head_any x aa ab ad ae ac na nb nd ne nc ca cb cd ce cc F vf k w0 Hy.out.1 Hy.out.2.1 W2 c bs vw kv K (n + 1) loops C HB2.out hcb (by rw [← HN.out]; exact H2.out.1) (by omega))
  clear c3 f3
  go_wp2_with fail
  refine Hhead.out.mono ?_
  rintro E w3 ⟨rfl, C3, hK3, hs3, hC3⟩
  rw [← HG.out] at hK3 hC3
  rw [← HN.out] at hK3
  have hs13 : WStep W1 w3 c bs bs kv kv := H2.out.2.1.trans hs3
  obtain ⟨e0, he0⟩ : ∃ e, e = x.nfirst K G loops := ⟨_, rfl⟩
  rw [← he0] at hK3 hC3
  have He0 := Lib.hid he0
  have H3 := Lib.hid (And.intro hK3 (And.intro hs13 hC3))
  have HB3 : Hid (Below w0.heap.size w0 w3) := hs13.below4 H1.out.2.2 HB1.out hcb
  have q3 := hs13.oth.size
  have hv3 := H1.out.2.1.oth hs13.oth q1 HnotD.out
  have c6 := hK3.c6
  obtain ⟨V, hV⟩ : ∃ V : World, V = w3 := ⟨_, rfl⟩
  subst hV
  clear i0 i1 i2 i3 i4 i5 i6 i7 i8 i9 i10 i11 i12 i13 hK3 hs3 hC3 hs13 he0 Hhead
  by_cases hz : e0 = 0
  · subst hz
    have Hv := Lib.hid hv3
    obtain ⟨i0, i1, i2, i3, i4, i5, i6, i7, i8, i9, i10, i11, i12, i13⟩ := hv3
    simp only [Nat.zero_add] at i1 i2 i3 i4 i5 i6 i7 i8 i9 i10 i11 i12 i13
    clear i2 i3 i4 i5 i6 i7 i8 i9 i10 i12 i13
    by_cases h1 : x.kind = 1
    --<A
    · have hq1 : (x.kind == 1) = true := by simp [h1]
      have Hb : Hid (x.nchk K G loops = (1, freshE K x.name) ∧ x.ncalls = x.nownc ∧ x.nadd K = K ++ [(x.name, 2)]) := by
        obtain ⟨b1, b2⟩ := St.nchk_bare (K := K) (G := G) (loops := loops) Hf.out.1 (by omega) (by omega) (by omega)
        refine ⟨?_, b2, ?_⟩
        · rw [b1, ← He0.out]
          unfold freshE
          by_cases hk : kindOf K x.name = 0
          · rw [if_neg (fun h => h.2 hk), if_neg (fun h => h hk)]; rfl
          · rw [if_pos ⟨by omega, hk⟩, if_pos hk]; rfl
        · unfold St.nadd; simp [h1]
      clear h1 i11
      go_wp2_with fail
      refine (rfresh_any V c bs vw vf kv K (k : Int) (n + 1) loops 0 N C3 x.name 2 118 H3.out.1 (by omega) (by omega) rfl).mono ?_
      rintro E w4 ⟨rfl, kv4, h4, s4⟩
      rw [keepE_zero] at h4
      have H4 := Lib.hid (And.intro h4 (H3.out.2.1.trans s4))
      clear h4 s4
      go_wp2_with fail
      refine bodyPost_end (results_none rfl _ _ _) rfl ?_
      exact ⟨rfl, kv4, [(x.name, 2)], C3, by rw [Hb.out.1]; exact H4.out.1, (WStep.of_below H1.out.1).trans H4.out.2, by simp, fun _ => ⟨Hb.out.2.2.symm, by rw [Hb.out.2.1]; exact H3.out.2.2 (by first | exact trivial | rfl)⟩⟩
    --A>
    by_cases h2 : x.kind = 2
    --<B
    · have hq1 : (x.kind == 2) = true := by simp [h2]
      have hq2 : (x.kind == 1) = false := by simp [h1]
      have Hb : Hid (x.nchk K G loops = (1, freshE K x.name) ∧ x.ncalls = x.nownc ∧ x.nadd K = K ++ [(x.name, 3)]) := by
        obtain ⟨b1, b2⟩ := St.nchk_bare (K := K) (G := G) (loops := loops) Hf.out.1 (by omega) (by omega) (by omega)
        refine ⟨?_, b2, ?_⟩
        · rw [b1, ← He0.out]
          unfold freshE
          by_cases hk : kindOf K x.name = 0
          · rw [if_neg (fun h => h.2 hk), if_neg (fun h => h hk)]; rfl
          · rw [if_pos ⟨by omega, hk⟩, if_pos hk]; rfl
        · unfold St.nadd; simp [h2]
      clear h1 h2 i11
      go_wp2_with fail
      refine (rfresh_any V c bs vw vf kv K (k : Int) (n + 1) loops 0 N C3 x.name 3 97 H3.out.1 (by omega) (by omega) rfl).mono ?_
      rintro E w4 ⟨rfl, kv4, h4, s4⟩
      rw [keepE_zero] at h4
      have H4 := Lib.hid (And.intro h4 (H3.out.2.1.trans s4))
      clear h4 s4
      go_wp2_with fail
      refine bodyPost_end (results_none rfl _ _ _) rfl ?_
      exact ⟨rfl, kv4, [(x.name, 3)], C3, by rw [Hb.out.1]; exact H4.out.1, (WStep.of_below H1.out.1).trans H4.out.2, by simp, fun _ => ⟨Hb.out.2.2.symm, by rw [Hb.out.2.1]; exact H3.out.2.2 (by first | exact trivial | rfl)⟩⟩
    --B>
    have hq1 : (x.kind == 1) = false := by simp [h1]
    have hq2 : (x.kind == 2) = false := by simp [h2]
    by_cases h7 : x.kind = 7
    --<C
    · have hq7 : (x.kind == 7) = true := by simp [h7]
      have hform := St.formed_parts (St.own_formed Hf.out.2.1).1
      have hels : x.els = [] := by
        rcases hform.2.2.2.2.2.1 with h | h
        · rw [h7] at h; exact absurd h (by decide)
        · exact h
      have hcas : x.cases = [] := by
        rcases hform.2.2.2.2.2.2 with h | h
        · rw [h7] at h; exact absurd h (by decide)
        · exact h
      have Hcalls : Hid (x.ncalls = x.nownc ++ St.ncallss x.body ∧ x.nadd K = K) := by
        constructor
        · rw [St.ncalls_eq, hels, hcas]; simp [St.ncallss, Cs.ncallss]
        · unfold St.nadd; rw [if_neg h1, if_neg h2]
      have Hchk : Hid (x.nchk K G loops = after (1, 0) (if kindOf K x.name ≠ 0 then (0, 9) else St.nchks (K ++ [(x.name, 4)]) G (loops + 1) x.body)) := by show _ = _; rw [St.nchk_eq, ← He0.out, if_pos h7]
      obtain ⟨m, hm⟩ : ∃ m, m = K.length := ⟨_, rfl⟩
      obtain ⟨ak, ck, hkv, -⟩ := H3.out.1.known.form
      have c5 := H3.out.1.c5
      rw [← hm] at hkv
      rw [hkv] at c5
      have hm4 : m ≤ 89999 := by omega
      have Hm := Lib.hid (And.intro hm hkv)
      have Hfr := Lib.hid (rfresh_any V c bs vw vf kv K (k : Int) (n + 1) loops 0 N C3 x.name 4 108 H3.out.1 (by omega) (by omega) rfl)
      clear h1 h2 h7 hform hels hcas hm hkv i11
      go_wp2_with fail
      refine Hfr.out.mono ?_
      rintro E w4 ⟨rfl, kv4, h4, s4⟩
      rw [keepE_zero] at h4
      have hs14 := H3.out.2.1.trans s4
      obtain ⟨e2, he2⟩ : ∃ e, e = freshE K x.name := ⟨_, rfl⟩
      rw [← he2] at h4
      have He2 := Lib.hid he2
      obtain ⟨l1, hl1⟩ : ∃ l1, l1 = loops + 1 := ⟨_, rfl⟩
      have hl1a : 1 ≤ l1 := by omega
      have hl1b : l1 ≤ 1000000 := by omega
      obtain ⟨W5, hW5⟩ : ∃ W5, W5 = w4.setCell ⟨c, 4, none⟩ (.int .i64 (loops + 1)) := ⟨_, rfl⟩
      have hk5 : RAt W5 c bs vw vf kv4 (K ++ [(x.name, 4)]) (k : Int) (n + 1) l1 e2 N C3 := by rw [hW5, hl1]; exact h4.putL _
      have hs15 : WStep W1 W5 c bs bs kv kv4 := hs14.trans (by rw [hW5]; exact .set _ _)
      have HB5 : Hid (Below w0.heap.size w0 W5) := hs15.below4 H1.out.2.2 HB1.out hcb
      have hv5 := H1.out.2.1.oth hs15.oth q1 HnotD.out
      have c4 := h4.c4
      have f4 := h4.f 4 (by decide)
      have H5 := Lib.hid (And.intro hk5 hs15)
      have HW5 := Lib.hid hW5
      have Hl1 := Lib.hid hl1
      have q5 := hs15.oth.size
      have Hcall := Lib.hid (Hy.out.2.2.1 Hf.out.2.2.2.2.1 W5 c bs vw kv4 (K ++ [(x.name, 4)]) (n + 1) l1 e2 C3 HB5.out hcb (by rw [← HN.out]; exact hk5) (by omega) (by have h1 := Hbd.out; have h2 := Hxt.out; omega) (by omega) (by have h1 := Hbd.out; have h2 := Hxt.out; omega) (by have h1 := Hbd.out; have h2 := Hxt.out; simp; omega))
      clear h4 s4 hs14 he2 hW5 hk5 hs15 hl1 i1 c5 c6 Hfr
      go_upto_region 13 with (fail)
      rw [← HW5.out]
      obtain ⟨j0, j1, j2, j3, j4, j5, j6, j7, j8, j9, j10, j11, j12, j13⟩ := hv5
      simp only [Nat.zero_add] at j11
      clear j0 j1 j2 j3 j4 j5 j6 j7 j8 j9 j10 j12 j13 c4 f4
      go_wp2_with fail
      refine Hcall.out.mono ?_
      rintro E w6 ⟨rfl, kv6, C6, hK6, hs6, hC6⟩
      rw [← HG.out] at hK6 hC6
      rw [← HN.out] at hK6
      obtain ⟨r, hr⟩ : ∃ r, r = St.nchks (K ++ [(x.name, 4)]) G l1 x.body := ⟨_, rfl⟩
      rw [← hr] at hK6 hC6
      have hs16 := H5.out.2.trans hs6
      obtain ⟨a6, c6', hkv6, hcap6, -⟩ := hK6.known.form
      have hlen6 : List.length (K ++ [(x.name, (4 : Int))]) = m + 1 := by rw [Hm.out.1]; simp
      rw [hlen6] at hkv6 hcap6
      clear hlen6
      subst hkv6
      obtain ⟨W7, hW7⟩ : ∃ W7, W7 = w6.setCell ⟨c, 4, none⟩ (.int .i64 (l1 - 1)) := ⟨_, rfl⟩
      have hk7 : RAt W7 c bs vw vf (.slice a6 (m + 1) c6') (K ++ [(x.name, 4)]) (k : Int) (n + 1 + goN e2 r.1) (l1 - 1) (keepE e2 r.2) N C6 := by rw [hW7]; exact hK6.putL _
      have hs17 : WStep W1 W7 c bs bs kv (.slice a6 (m + 1) c6') := hs16.trans (by rw [hW7]; exact .set _ _)
      have c4 := hK6.c4
      have f4 := hK6.f 4 (by decide)
      have d5 := hk7.c5
      have df5 := hk7.f 5 (by decide)
      have H7 := Lib.hid (And.intro hk7 (And.intro hs17 hC6))
      have HW7 := Lib.hid hW7
      have Hr := Lib.hid hr
      clear hr hK6 hs6 hC6 hs16 hW7 hk7 hs17 j11 Hcall
      go_upto_region 15 with (fail)
      rw [← HW7.out]
      clear c4 f4
      go_wp2_with fail
      refine bodyPost_end (results_none rfl _ _ _) rfl ?_
      have hcut := H7.out.1.cut (j := m) (by rw [Hm.out.1]; simp)
      have htk : (K ++ [(x.name, 4)]).take m = K := by rw [Hm.out.1]; exact List.take_left' rfl
      have hfin : x.nchk K G loops = (1 + (if e2 = 0 then r.1 else 0), keepE e2 r.2) := by
        rw [Hchk.out, Hr.out, ← Hl1.out]
        have h := He2.out
        unfold freshE at h
        by_cases hk : kindOf K x.name = 0
        · rw [if_neg (fun h => h hk)] at h
          rw [if_neg (fun h => h hk), h, if_pos rfl, keepE_zero, after_ok rfl]
        · rw [if_pos hk] at h
          rw [if_pos hk, h, if_neg (by decide), keepE_no (by decide), after_ok rfl]
      refine ⟨rfl, .slice a6 m c6', [], C6, ?_, (WStep.of_below H1.out.1).trans (H7.out.2.1.trans .cut), by simp, fun h => ⟨by rw [List.append_nil, Hcalls.out.2], fun z => ?_⟩⟩
      · rw [hfin]
        refine hcut.to (by rw [htk, List.append_nil]) ?_ (by have := Hl1.out; omega) rfl
        by_cases h2 : e2 = 0
        · rw [h2, goN_zero]; simp; omega
        · rw [goN_no h2, if_neg h2]; simp
      · rw [hfin] at h
        have he : e2 = 0 := by
          by_cases h2 : e2 = 0
          · exact h2
          · exfalso; rw [keepE_no h2] at h; exact h2 h
        have hr0 : r.2 = 0 := by rw [he, keepE_zero] at h; exact h
        rw [H7.out.2.2 he hr0 z, H3.out.2.2 (by first | exact trivial | rfl) z, Hcalls.out.1, idxs_append, or_assoc]
    --C>
    have hq7 : (x.kind == 7) = false := by simp [h7]
    by_cases h56 : x.kind = 5 ∨ x.kind = 6
    --<D
    · have hor : (x.kind == 5) = true ∨ (x.kind == 5) = false ∧ (x.kind == 6) = true := by
        rcases h56 with h | h
        · exact .inl (by simp [h])
        · exact .inr ⟨by simp [h], by simp [h]⟩
      have Hchk : Hid (x.nchk K G loops = after (1, 0) (after (St.nchks K G loops x.body) (after (Cs.nchks K G loops x.cases) (St.nchks K G loops x.els))) ∧ x.nadd K = K) := by
        have hn : x.nadd K = K := by unfold St.nadd; rw [if_neg h1, if_neg h2]
        refine ⟨?_, hn⟩
        rw [St.nchk_eq, ← He0.out, if_neg h7, if_neg (by omega), hn]
      have Hcall := Lib.hid (Hy.out.2.2.1 Hf.out.2.2.2.2.1 V c bs vw kv K (n + 1) loops 0 C3 HB3.out hcb (by rw [← HN.out]; exact H3.out.1) (by omega) (by have h1 := Hbd.out; have h2 := Hxt.out; omega) hl0 (by have h1 := Hbd.out; have h2 := Hxt.out; omega) (by have h1 := Hbd.out; have h2 := Hxt.out; omega))
      clear h1 h2 h7 h56 i1
      rcases hor with hq5 | ⟨hq5, hq6⟩
      all_goals
        go_wp2_with fail
        refine Hcall.out.mono ?_
        rintro E w6 ⟨rfl, kv6, C6, hK6, hs6, hC6⟩
        rw [← HG.out] at hK6 hC6
        rw [← HN.out] at hK6
        obtain ⟨r, hr⟩ : ∃ r, r = after (1, 0) (St.nchks K G loops x.body) := ⟨_, rfl⟩
        have hr1 : r = (1 + (St.nchks K G loops x.body).1, (St.nchks K G loops x.body).2) := by rw [hr, after_ok rfl]
        have hk6 : RAt w6 c bs vw vf kv6 K (k : Int) (n + (r.1 : Int)) loops r.2 N C6 := hK6.to rfl (by rw [goN_zero, hr1]; simp only; omega) rfl (by rw [keepE_zero, hr1])
        have hs16 := H3.out.2.1.trans hs6
        have hc6 : r.2 = 0 → ∀ z, z ∈ C6 ↔ z ∈ C ∨ idxs G (x.nownc ++ St.ncallss x.body) z := fun h z => by
          rw [hC6 rfl (by rw [hr1] at h; exact h) z, H3.out.2.2 (by first | exact trivial | rfl) z, idxs_append, or_assoc]
        have Hr1 : Hid (r.1 ≤ 1 + St.totals x.body) := by
          show _ ≤ _
          have := St.nchks_le K G loops x.body
          rw [hr1]; simp only; omega
        have Hchk2 : Hid (x.nchk K G loops = after r (after (Cs.nchks K G loops x.cases) (St.nchks K G loops x.els))) := by show _ = _; rw [Hchk.out.1, ← after_assoc, ← hr]
        have H6 := Lib.hid (And.intro hk6 (And.intro hs16 hc6))
        clear hr hr1 hk6 hs6 hs16 hc6 hK6 hC6 i11 Hcall
        go_wp2_with fail
        go_loopg [5] nc (fun g iv wx => ∃ (j : Nat) (kvj : Value) (Cj : List Int), g = nc - j ∧ iv = .int .i64 (j : Int) ∧ j ≤ nc ∧ RAt wx c bs vw vf kvj K (k : Int) (n + ((after r (Cs.nchks K G loops (x.cases.take j))).1 : Int)) loops (after r (Cs.nchks K G loops (x.cases.take j))).2 N Cj ∧ WStep W1 wx c bs bs kv kvj ∧
          ((after r (Cs.nchks K G loops (x.cases.take j))).2 = 0 → ∀ z, z ∈ Cj ↔ z ∈ C ∨ idxs G ((x.nownc ++ St.ncallss x.body) ++ Cs.ncallss (x.cases.take j)) z))
        case atStart => exact ⟨0, kv6, C6, rfl, rfl, Nat.zero_le _, by simpa [Cs.nchks, after_zero] using H6.out.1, H6.out.2.1, by simpa [Cs.nchks, after_zero, Cs.ncallss] using H6.out.2.2⟩
        case round =>
          obtain ⟨j, kvj, Cj, hg, rfl, hj, hKj, hsj, hCj⟩ := hrel
          obtain ⟨s, hs⟩ : ∃ s, s = after r (Cs.nchks K G loops (x.cases.take j)) := ⟨_, rfl⟩
          rw [← hs] at hKj hCj
          have Hs := Lib.hid hs
          have Hg := Lib.hid hg
          have Hj := Lib.hid (And.intro hKj (And.intro hsj hCj))
          have HBj : Hid (Below w0.heap.size w0 wr) := hsj.below4 H1.out.2.2 HB1.out hcb
          have qj := hsj.oth.size
          have hvj := H1.out.2.1.oth hsj.oth q1 HnotD.out
          have Hs1 : Hid (s.1 ≤ 1 + St.totals x.body + Cs.totals (x.cases.take j)) := by
            show _ ≤ _
            have h1 := after_fst_le r (Cs.nchks K G loops (x.cases.take j))
            have h2 := Cs.nchks_le K G loops (x.cases.take j)
            have h3 := Hr1.out
            rw [← hs] at h1
            omega
          obtain ⟨i0, i1, i2, i3, i4, i5, i6, i7, i8, i9, i10, i11, i12, i14⟩ := hvj
          simp only [Nat.zero_add] at i12 i14
          clear hg hs hKj hsj hCj i0 i1 i2 i3 i4 i5 i6 i7 i8 i9 i10 i11
          by_cases hjn : j < nc
          · obtain ⟨y, hy⟩ : ∃ y, x.cases[j]? = some y := ⟨_, List.getElem?_eq_getElem (by rw [← Hnc.out]; exact hjn)⟩
            obtain ⟨bx, ox, rfl, hbx, hPc⟩ := Hy.out.2.2.2.2.1.at (i := j) hjn
            obtain ⟨j0, j1⟩ := (hPc y hy).later HBj.out hbx
            obtain ⟨hsb, hib⟩ := Hy.out.2.2.2.2.2 j y hy
            obtain ⟨ay, cy, hvy, -⟩ := hsb.form
            obtain ⟨ny, hny⟩ : ∃ n, n = y.body.length := ⟨_, rfl⟩
            rw [hvy, ← hny] at j1 hib
            have hyt : St.totals y.body ≤ y.total := by rw [Cs.total_eq]; omega
            have htt := Cs.totals_take hy
            have htl := Cs.totals_le (l := x.cases) (j + 1)
            have hfy : St.fines y.body := (Cs.fine_eq y).1 (Cs.fines_at Hf.out.2.2.2.2.2.1 hy)
            have Hcall := Lib.hid (hib hfy wr c bs vw kvj K (n + (s.1 : Int)) loops s.2 Cj HBj.out hcb (by rw [← HN.out]; exact Hj.out.1) (by omega) (by have h1 := Hbd.out; have h2 := Hxt.out; have h4 := Hs1.out; omega) hl0 (by have h1 := Hbd.out; have h2 := Hxt.out; omega) (by have h1 := Hbd.out; have h2 := Hxt.out; omega))
            have HY := Lib.hid hy
            clear hPc hy hsb hib hvy hny hyt htt htl hfy i12
            go_wp2_with fail
            refine Hcall.out.mono ?_
            rintro E w9 ⟨rfl, kv9, C9, hK9, hs9, hC9⟩
            rw [← HG.out] at hK9 hC9
            rw [← HN.out] at hK9
            have hcn := Cs.nchk_eq K G loops y
            rw [← hcn] at hK9 hC9
            have H9 := Lib.hid (And.intro hK9.after (And.intro (Hj.out.2.1.trans hs9) hC9))
            clear hcn hK9 hs9 hC9 j0 j1 i14 Hcall
            go_wp2_with fail
            go_roundg (nc - (j + 1))
            case measure => have := Hg.out; omega
            case rel =>
              have hst : after s (y.nchk K G loops) = after r (Cs.nchks K G loops (x.cases.take (j + 1))) := by rw [Hs.out, after_assoc, ← Cs.nchks_next HY.out]
              refine ⟨j + 1, kv9, C9, rfl, by go_num, by omega, by rw [← hst]; exact H9.out.1, H9.out.2.1, fun h z => ?_⟩
              rw [← hst] at h
              obtain ⟨e1, e2⟩ := after_two h
              rw [H9.out.2.2 e1 e2 z, Hj.out.2.2 e1 z, Cs.ncallss_take HY.out, Cs.ncalls_eq, ← List.append_assoc, idxs_append G (x.nownc ++ St.ncallss x.body ++ Cs.ncallss (x.cases.take j)), or_assoc]
          · obtain rfl : nc = j := by omega
            have htk : x.cases.take nc = x.cases := List.take_of_length_le (by rw [← Hnc.out]; exact Nat.le_refl _)
            have hbound : n + (s.1 : Int) + (St.totals x.els : Int) ≤ 1000000 := by
              have h1 := Hbd.out
              have h2 := Hxt.out
              have h4 := Hs1.out
              rw [htk] at h4
              omega
            have Hcall := Lib.hid (Hy.out.2.2.2.1 Hf.out.2.2.2.2.2.2 wr c bs vw kvj K (n + (s.1 : Int)) loops s.2 Cj HBj.out hcb (by rw [← HN.out]; exact Hj.out.1) (by omega) hbound hl0 (by have h1 := Hbd.out; have h2 := Hxt.out; omega) (by have h1 := Hbd.out; have h2 := Hxt.out; omega))
            have Htk := Lib.hid htk
            clear hjn htk hbound
            go_wp2_with fail
            refine Hcall.out.mono ?_
            rintro E w9 ⟨rfl, kv9, C9, hK9, hs9, hC9⟩
            rw [← HG.out] at hK9 hC9
            rw [← HN.out] at hK9
            have H9 := Lib.hid (And.intro hK9.after (And.intro (Hj.out.2.1.trans hs9) hC9))
            clear hK9 hs9 hC9 i12 i14 Hcall
            go_wp2_with fail
            refine bodyPost_end (results_none rfl _ _ _) rfl ?_
            have hfin : after s (St.nchks K G loops x.els) = x.nchk K G loops := by rw [Hs.out, Htk.out, after_assoc, Hchk2.out]
            refine ⟨rfl, kv9, [], C9, by rw [List.append_nil, ← hfin]; exact H9.out.1, (WStep.of_below H1.out.1).trans H9.out.2.1, by simp, fun h => ⟨by rw [List.append_nil, Hchk.out.2], fun z => ?_⟩⟩
            rw [← hfin] at h
            obtain ⟨e1, e2⟩ := after_two h
            have hj2 := Hj.out.2.2 e1 z
            rw [Htk.out] at hj2
            rw [H9.out.2.2 e1 e2 z, hj2, St.ncalls_eq, ← List.append_assoc, ← List.append_assoc, idxs_append G (x.nownc ++ St.ncallss x.body ++ Cs.ncallss x.cases), or_assoc]
    --D>
    · have hq5 : (x.kind == 5) = false := by simp; omega
      have hq6 : (x.kind == 6) = false := by simp; omega
      have Hb : Hid (x.nchk K G loops = (1, 0) ∧ x.ncalls = x.nownc ∧ x.nadd K = K) := by
        obtain ⟨b1, b2⟩ := St.nchk_bare (K := K) (G := G) (loops := loops) Hf.out.1 (by omega) (by omega) h7
        refine ⟨?_, b2, ?_⟩
        · rw [b1, ← He0.out, if_neg (by omega)]; rfl
        · unfold St.nadd; rw [if_neg h1, if_neg h2]
      clear h1 h2 h7 h56 i1 i11
      go_wp2_with fail
      refine bodyPost_end (results_none rfl _ _ _) rfl ?_
      exact ⟨rfl, kv, [], C3, by rw [Hb.out.1, List.append_nil]; exact H3.out.1, (WStep.of_below H1.out.1).trans H3.out.2.1, by simp, fun _ => ⟨by rw [List.append_nil, Hb.out.2.2], by rw [Hb.out.2.1]; exact H3.out.2.2 (by first | exact trivial | rfl)⟩⟩
  · have hq : (e0 != 0) = true := by simp [hz]
    have Hres : Hid (x.nchk K G loops = (1, e0) ∧ e0 ≠ 0) := by
      constructor
      · rw [St.nchk_eq, ← He0.out]; exact after_err hz
      · exact hz
    clear hv3 hz
    go_wp2_with fail
    refine bodyPost_ret (results_none rfl _ _ _) rfl ?_
    exact ⟨rfl, kv, [], C3, by rw [Hres.out.1, List.append_nil]; exact H3.out.1, (WStep.of_below H1.out.1).trans H3.out.2.1, by simp, fun h => absurd (by rw [Hres.out.1] at h; exact h) Hres.out.2⟩
end Go.Proofs.YtgcplcffejbniaaGreat
