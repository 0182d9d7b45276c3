/- tree.Nodes: how many parts a program has, up to one more than may be. -/
import Derived.Test.YtneibcpgengdnaaTrNum
namespace Go.Proofs.Ytneibcpgengdnaa
open Go.RowKit

/-- All blocks that were there are as they were, but for those of S. -/
structure Oth (S : Nat → Prop) (w w' : World) : Prop where
  os : w'.os = w.os
  tape : w'.tape = w.tape
  output : w'.output = w.output
  size : w.heap.size ≤ w'.heap.size
  block : ∀ k, k < w.heap.size → ¬ S k → w'.heap[k]? = w.heap[k]?
theorem Oth.refl (S : Nat → Prop) (w : World) : Oth S w w := ⟨rfl, rfl, rfl, Nat.le_refl _, fun _ _ _ => rfl⟩
theorem Oth.trans {S : Nat → Prop} {w w1 w2 : World} (h : Oth S w w1) (k : Oth S w1 w2) : Oth S w w2 :=
  ⟨k.os.trans h.os, k.tape.trans h.tape, k.output.trans h.output, Nat.le_trans h.size k.size, fun i hi hc => (k.block i (Nat.lt_of_lt_of_le hi h.size) hc).trans (h.block i hi hc)⟩
theorem Oth.of_below {S : Nat → Prop} {w w' : World} (h : Below w.heap.size w w') : Oth S w w' := ⟨h.os, h.tape, h.output, h.size, fun i hi _ => h.block i hi⟩
theorem Oth.below {S : Nat → Prop} {w w' : World} {B : Nat} (h : Oth S w w') (hB : B ≤ w.heap.size) (hc : ∀ k, S k → B ≤ k) : Below B w w' := ⟨h.os, h.tape, h.output, h.size, fun i hi => h.block i (by omega) (fun hs => by have := hc i hs; omega)⟩
theorem Oth.cell {S : Nat → Prop} {w w' : World} (h : Oth S w w') {p : Addr} (hp : p.block < w.heap.size) (hc : ¬ S p.block) : w'.cell? p = w.cell? p := World.cell?_of_block (h.block p.block hp hc)
theorem Oth.frozen {S : Nat → Prop} {w w' : World} (h : Oth S w w') {p : Addr} (hp : p.block < w.heap.size) (hc : ¬ S p.block) : w'.frozen? p = w.frozen? p := World.frozen?_of_block (h.block p.block hp hc)
theorem Oth.alloc {S : Nat → Prop} {w w' : World} (h : Oth S w w') (o : Obj) : Oth S w (w'.alloc o) := h.trans (.of_below ((Below.refl _ _).alloc (Nat.le_refl _) _))
theorem Oth.set {S : Nat → Prop} {w w' : World} (h : Oth S w w') {p : Addr} (hp : S p.block) (v : Value) : Oth S w (w'.setCell p v) :=
  h.trans ⟨rfl, rfl, rfl, by rw [size_set]; exact Nat.le_refl _, fun i _ hs => Below.heap_setCell _ _ _ _ (fun e => hs (by rw [e]; exact hp))⟩
theorem Oth.imp {S T : Nat → Prop} {w w' : World} (h : Oth S w w') (hst : ∀ k, k < w.heap.size → S k → T k) : Oth T w w' := ⟨h.os, h.tape, h.output, h.size, fun i hi hc => h.block i hi fun hs => hc (hst i hi hs)⟩

/-- A counter of parts in memory. -/
structure CAt (W : World) (c k : Nat) : Prop where
  cell : W.cell? ⟨c, 0, none⟩ = some (.int .i64 (k : Int))
  free : W.frozen? ⟨c, 0, none⟩ = false
  le : k ≤ 4097
theorem CAt.lt {W : World} {c k : Nat} (h : CAt W c k) : c < W.heap.size := block_lt_of_cell h.cell
theorem CAt.later {W W' : World} {c k : Nat} (h : CAt W c k) (hb : Below W.heap.size W W') : CAt W' c k := ⟨(hb.cell (p := ⟨c, 0, none⟩) h.lt).trans h.cell, (hb.frozen (p := ⟨c, 0, none⟩) h.lt).trans h.free, h.le⟩
theorem CAt.put {W : World} {c k : Nat} (h : CAt W c k) {m : Nat} (hm : m ≤ 4097) : CAt (W.setCell ⟨c, 0, none⟩ (.int .i64 (m : Int))) c m :=
  ⟨World.cell?_setCell_same' _ _ _ (by rw [h.cell]; rfl), (World.frozen?_setCell _ _ _ _).trans h.free, hm⟩
abbrev ptrV (c : Nat) : Value := .pointer (some ⟨c, 0, none⟩)

theorem full_any (c k : Nat) (W : World) (h : CAt W c k) : Calls Try.prog 74 #[ptrV c] W (fun e W' => e = .returned (.bool (decide (4096 < k))) ∧ W = W') := by
  have hc := h.cell
  have hk := h.le
  clear h
  go_enter Try.func74, Try.ntmps74
  go_wp2_with fail
  go_ret
  exact ⟨by go_num, rfl⟩
def exVal (x : Ex) (v : Value) : Value := .agg #[.int .i64 x.kind, .int .i64 x.n, .string x.name, v]
theorem zero_any (x : Ex) (v : Value) (a : Option Addr) (cap : Nat) (W : World) (hv : v = .slice a x.args.length cap) : Calls Try.prog 75 #[exVal x v] W (Gives (.bool x.zero) W) := by
  obtain ⟨k, n, s, l⟩ := x
  subst hv
  obtain ⟨m, hm⟩ : ∃ m, m = l.length := ⟨_, rfl⟩
  have hz : (Ex.mk k n s l).zero = (k == 0 && n == 0 && s.size == 0 && m == 0) := by rw [hm]; rfl
  rw [hz]
  unfold exVal Ex.kind Ex.n Ex.name Ex.args
  simp only
  rw [← hm]
  clear hz hm
  have hs0 : (s.size == 0) = decide (s.toList = []) := by
    have h1 : s.size = s.toList.length := by rw [ByteArray.toList_eq s, Array.length_toList]; rfl
    rw [h1]
    cases s.toList <;> rfl
  rw [hs0]
  clear hs0
  go_enter Try.func75, Try.ntmps75
  go_wp2_with fail
  all_goals
    (try go_ret)
    refine ⟨?_, (Below.refl _ _).alloc (Nat.le_refl _) _⟩
    apply congrArg (fun b => Ending.returned (.bool b))
    (try (have hz : ((m : Int) == 0) = (m == 0) := by rw [Bool.eq_iff_iff]; simp only [beq_iff_eq]; omega))
    simp_all
theorem ExAt.oth {S : Nat → Prop} {w w' : World} {b o : Nat} {x : Ex} {v : Value} (h : ExAt w b o x v) (hO : Oth S w w') (hb : b < w.heap.size) (hs : ¬ S b) : ExAt w' b o x v :=
  have k := fun j => hO.cell (p := ⟨b, j, none⟩) hb hs
  ⟨(k _).trans h.c0, (k _).trans h.c1, (k _).trans h.c2, (k _).trans h.c3⟩
theorem StAt.oth {S : Nat → Prop} {w w' : World} {b o : Nat} {x : St} {va vb vd ve vc : Value} (h : StAt w b o x va vb vd ve vc) (hO : Oth S w w') (hb : b < w.heap.size) (hs : ¬ S b) : StAt w' b o x va vb vd ve vc :=
  have k := fun j => hO.cell (p := ⟨b, j, none⟩) hb hs
  ⟨(k _).trans h.c0, (k _).trans h.c1, (k _).trans h.c2, (k _).trans h.c3, (k _).trans h.c4, (k _).trans h.c5, (k _).trans h.c6, (k _).trans h.c7, (k _).trans h.c8, (k _).trans h.c9, (k _).trans h.c10, (k _).trans h.c11, (k _).trans h.c12, (k _).trans h.c13⟩
set_option maxRecDepth 100000 in
set_option maxHeartbeats 2000000 in
/-- Counting a list of expressions whose arguments are counted. -/
theorem exprs_row (l : List Ex) (v : Value) (vs : Nat → Value) (W : World) (c k : Nat) (h : RowOf W v l.length 4 (fun b o i => b ≠ c ∧ ∀ x, l[i]? = some x → ExAt W b o x (vs i)))
    (hf : ∀ (i : Nat) x, l[i]? = some x → ∃ a cap, vs i = .slice a x.args.length cap)
    (ih : ∀ (i : Nat) x, l[i]? = some x → ∀ W' k', Oth (· = c) W W' → CAt W' c k' → Calls Try.prog 76 #[ptrV c, vs i] W' (fun e W'' => e = .returned (.tuple #[]) ∧ CAt W'' c (upto (k' + Ex.totals x.args)) ∧ Oth (· = c) W' W''))
    (hC : CAt W c k) :
    Calls Try.prog 76 #[ptrV c, v] W (fun e W' => e = .returned (.tuple #[]) ∧ CAt W' c (upto (k + Ex.totals l)) ∧ Oth (· = c) W W') := by
  obtain ⟨a, cap, rfl, hncap, hcap⟩ := h.form
  obtain ⟨n, hn⟩ : ∃ n, n = l.length := ⟨_, rfl⟩
  have hk := hC.le
  have Hn := Lib.hid hn
  have Hrow : Hid (RowOf W (.slice a n cap) l.length 4 (fun b o i => b ≠ c ∧ ∀ x, l[i]? = some x → ExAt W b o x (vs i))) := by rw [hn]; exact h
  have Hih := Lib.hid (And.intro ih hf)
  have HC := Lib.hid hC
  rw [← hn]
  rw [← hn] at hncap
  have hn62 : n ≤ 9223372036854775807 := by have : maxLen ≤ 9223372036854775807 := by decide
                                            omega
  clear h ih hf hn hC
  go_enter Try.func76, Try.ntmps76
  go_wp2_with fail
  go_loopg [8] n (fun g iv wx => ∃ i : Nat, g = n - i ∧ iv = .int .i64 (i : Int) ∧ i ≤ n ∧ CAt wx c (upto (k + Ex.totals (l.take i))) ∧ Oth (· = c) W wx)
  case atStart => exact ⟨0, rfl, rfl, Nat.zero_le _, by simpa [Ex.totals, upto_of hk] using HC.out, Oth.refl _ _⟩
  case round =>
    obtain ⟨i, hg, rfl, hi, hC, hO⟩ := hrel
    have HO := Lib.hid hO
    by_cases hin : i < n
    · obtain ⟨x, hx⟩ : ∃ x, l[i]? = some x := ⟨_, List.getElem?_eq_getElem (by rw [← Hn.out]; exact hin)⟩
      obtain ⟨b, off, rfl, hb, hbc, hP⟩ := Hrow.out.at (i := i) (by rw [← Hn.out]; exact hin)
      obtain ⟨i0, i1, i2, i3⟩ := (hP x hx).oth hO hb hbc
      have ihx := Hih.out.1 i x hx
      obtain ⟨a', cap', hvs⟩ := Hih.out.2 i x hx
      rw [hvs] at i3 ihx
      obtain ⟨m, hm⟩ : ∃ m, m = x.args.length := ⟨_, rfl⟩
      rw [← hm] at i3 ihx
      have Hihx := Lib.hid ihx
      have Hx := Lib.hid hx
      have Hg := Lib.hid hg
      have HC2 := Lib.hid hC
      obtain ⟨kk, hkk⟩ : ∃ kk, kk = upto (k + Ex.totals (l.take i)) := ⟨_, rfl⟩
      rw [← hkk] at hC HC2
      have Hkk := Lib.hid hkk
      have q0 := block_lt_of_cell i0
      have q1 := hC.lt
      obtain ⟨W1, hW1⟩ : ∃ W1, W1 = wr.alloc (.cells #[.int .i64 x.kind, .int .i64 x.n, .string x.name, Value.slice a' m cap'] 44) := ⟨_, rfl⟩
      have hC1 : CAt W1 c kk := by rw [hW1]; exact hC.later ((Below.refl _ _).alloc (Nat.le_refl _) _)
      have hO1 : Oth (· = c) wr W1 := by rw [hW1]; exact (Oth.refl _ _).alloc _
      have hs1 : W1.heap.size = wr.heap.size + 1 := by rw [hW1]; simp
      have hv1 : W1.cell? ⟨wr.heap.size, 3, none⟩ = some (.slice a' m cap') := by rw [hW1]; exact World.cell?_alloc_at _ _ _ _ rfl
      have H1 := Lib.hid (And.intro hC1 (And.intro hO1 hs1))
      have HW1 := Lib.hid hW1
      clear hkk hC hO hP hx hg hC1 hO1 hs1 hW1 ihx hvs hm
      go_wp2_with fail
      rw [← HW1.out]
      refine (full_any c kk _ H1.out.1).mono ?_
      rintro e w1 ⟨rfl, hw1⟩
      rw [← hw1]
      clear hw1
      by_cases hf : 4096 < kk
      · have hq : decide (4096 < kk) = true := decide_eq_true hf
        have Hres : Hid (upto (k + Ex.totals l) = kk) := by
          show _ = _
          rw [Hkk.out] at hf ⊢
          exact upto_stop (Ex.totals_le i) hf
        rw [hq]
        clear hf hq
        go_wp2_with fail
        refine bodyPost_ret (results_none rfl _ _ _) rfl ?_
        exact ⟨rfl, by rw [Hres.out]; exact H1.out.1, HO.out.trans H1.out.2.1⟩
      · have hq : decide (4096 < kk) = false := decide_eq_false hf
        have hk1 : kk + 1 ≤ 4097 := by omega
        obtain ⟨W2, hW2⟩ : ∃ W2, W2 = W1.setCell ⟨c, 0, none⟩ (.int .i64 (((kk + 1 : Nat) : Int))) := ⟨_, rfl⟩
        have hC2 : CAt W2 c (kk + 1) := by rw [hW2]; exact H1.out.1.put hk1
        have hO2 : Oth (· = c) W1 W2 := by rw [hW2]; exact (Oth.refl (· = c) W1).set (p := ⟨c, 0, none⟩) rfl _
        have hv2 : W2.cell? ⟨wr.heap.size, 3, none⟩ = some (.slice a' m cap') := by rw [hO2.cell (by show wr.heap.size < _; rw [H1.out.2.2]; omega) (by show ¬ wr.heap.size = c; omega)]; exact hv1
        have H2 := Lib.hid (And.intro hC2 hO2)
        have hcell := H1.out.1.cell
        have hfree := H1.out.1.free
        have e1 : Hid ((kk : Int) + 1 = ((kk + 1 : Nat) : Int)) := by show _ = _; omega
        have q3 := H1.out.2.2
        have HW2 := Lib.hid hW2
        rw [hq]
        clear hW2 hq hC2 hO2 hv1
        go_upto_region 5 with (fail)
        rw [e1.out, ← HW2.out]
        go_wp2_with fail
        have hOw := H1.out.2.1.trans H2.out.2
        refine (Hihx.out W2 (kk + 1) (HO.out.trans hOw) H2.out.1).mono ?_
        rintro e w3 ⟨rfl, hC3, hO3⟩
        have H3 := Lib.hid (And.intro hC3 (hOw.trans hO3))
        clear hC3 hO3 hOw hcell hfree hv2
        go_wp2_with fail
        go_roundg (n - (i + 1))
        case measure => have := Hg.out; omega
        case rel => exact ⟨i + 1, rfl, by go_num, hin, by
            have h := H3.out.1
            rw [Hkk.out, Nat.add_assoc, upto_add, ← Ex.total_eq, Nat.add_assoc, ← Ex.totals_take Hx.out] at h
            exact h, HO.out.trans H3.out.2⟩
    · obtain rfl : n = i := by omega
      have Hres : Hid (Ex.totals (l.take n) = Ex.totals l) := by show _ = _; rw [List.take_of_length_le (by rw [← Hn.out]; exact Nat.le_refl _)]
      have HC2 := Lib.hid hC
      clear hin hC hO
      go_wp2_with fail
      refine bodyPost_end (results_none rfl _ _ _) rfl ?_
      exact ⟨rfl, by rw [← Hres.out]; exact HC2.out, HO.out⟩
theorem exprs_any (l : List Ex) (v : Value) (w0 : World) (h : ExsIn w0 l v) : ∀ W c k, Below w0.heap.size w0 W → w0.heap.size ≤ c → CAt W c k →
    Calls Try.prog 76 #[ptrV c, v] W (fun e W' => e = .returned (.tuple #[]) ∧ CAt W' c (upto (k + Ex.totals l)) ∧ Oth (· = c) W W') := by
  induction h with
  | mk l v vs h each ih =>
  intro W c k hB hcb hC
  exact exprs_row l v vs W c k (h.imp hB.size fun b o i hb _ hp => ⟨by omega, fun x hx => (hp x hx).later hB hb⟩) (fun i x hx => by obtain ⟨a, cap, e, _⟩ := (each i x hx).form; exact ⟨a, cap, e⟩)
    (fun i x hx W' k' hO hC' => ih i x hx W' c k' (hB.trans (hO.below hB.size fun _ e => by omega)) hcb hC') hC
end Go.Proofs.Ytneibcpgengdnaa
