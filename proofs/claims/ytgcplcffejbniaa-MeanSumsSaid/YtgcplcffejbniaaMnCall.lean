/- mean: a call. -/
import Derived.Test.YtgcplcffejbniaaMnStmt
namespace Go.Proofs.Ytgcplcffejbniaa
open Go.RowKit Go.Maps

/-- Do arguments fit? -/
def fitsB (ps : List Pm) (l : List Int) : Bool := decide (l.length = ps.length) && (ps.zip l).all fun y => decide (y.1.lo ≤ y.2 ∧ y.2 ≤ y.1.hi)
theorem fitsB_hit {ps : List Pm} {l : List Int} {i : Nat} {p : Pm} {z : Int} (hp : ps[i]? = some p) (hz : l[i]? = some z) (h : ¬ (p.lo ≤ z ∧ z ≤ p.hi)) : fitsB ps l = false := by
  unfold fitsB
  rw [Bool.and_eq_false_iff]
  right
  rw [List.all_eq_false]
  exact ⟨(p, z), List.mem_of_getElem? (i := i) (by rw [List.getElem?_zip_eq_some]; exact ⟨hp, hz⟩), by simpa using h⟩
theorem fitsB_all {ps : List Pm} {l : List Int} (hl : l.length = ps.length) (h : ∀ (i : Nat) p z, ps[i]? = some p → l[i]? = some z → p.lo ≤ z ∧ z ≤ p.hi) : fitsB ps l = true := by
  unfold fitsB
  rw [decide_eq_true hl, Bool.true_and, List.all_eq_true]
  rintro ⟨p, z⟩ hy
  obtain ⟨i, hi⟩ := List.getElem?_of_mem hy
  rw [List.getElem?_zip_eq_some] at hi
  exact decide_eq_true (h i p z hi.1 hi.2)
theorem intsIn_cell {w : World} {a : Option Addr} {n cap : Nat} {l : List Int} (h : IntsIn w (.slice a n cap) l) {i : Nat} {x : Int} (hx : l[i]? = some x) : ∃ b off, a = some ⟨b, off, none⟩ ∧ b < w.heap.size ∧ w.cell? ⟨b, off + i, none⟩ = some (.int .i64 x) := by
  have hi := (List.getElem?_eq_some_iff.1 hx).1
  obtain ⟨_, a', cap', hv, _, _, _, hc⟩ := h
  cases hv
  obtain ⟨b, off, rfl, hb, hc⟩ := hc (by omega)
  exact ⟨b, off, rfl, hb, hc i _ (by simp [intVs, hx])⟩
set_option maxRecDepth 100000 in
set_option maxHeartbeats 4000000 in
theorem fits_any (f : Fn) (b o : Nat) (vp vb : Value) (va : Value) (l : List Int) (w0 W : World) (hf : FnCells w0 b o f vp vb) (hb : b < w0.heap.size) (hp : RowOf w0 vp f.params.length 3 (fun b o k => ∀ y, f.params[k]? = some y → PmAt w0 b o y)) (ha : IntsIn w0 va l) (hB : Below w0.heap.size w0 W) :
    Calls Try.prog 47 #[.pointer (some ⟨b, o, none⟩), va] W (Gives (.bool (fitsB f.params l)) W) := by
  obtain ⟨ap, cp, rfl, hpc1, hpc2⟩ := hp.form
  obtain ⟨_, aa, ca, rfl, hac1, hac2, -⟩ := id ha
  obtain ⟨np, hnp⟩ : ∃ n, n = f.params.length := ⟨_, rfl⟩
  obtain ⟨nl, hnl⟩ : ∃ n, n = l.length := ⟨_, rfl⟩
  have Hrow : Hid (RowOf w0 (.slice ap np cp) f.params.length 3 (fun b o k => ∀ y, f.params[k]? = some y → PmAt w0 b o y)) := by rw [hnp]; exact hp
  rw [← hnl] at ha hac1
  rw [← hnp] at hf hpc1
  rw [← hnl]
  have Ha := Lib.hid ha
  have Hl := Lib.hid (And.intro hnp hnl)
  have i1 := (hf.later hB hb).c1
  have HB := Lib.hid hB
  have hnp62 : np ≤ 9223372036854775807 := by have : maxLen ≤ 9223372036854775807 := by decide
                                              omega
  have hnl62 : nl ≤ 9223372036854775807 := by have : maxLen ≤ 9223372036854775807 := by decide
                                              omega
  clear hp ha hf hB hnp hnl hpc1 hpc2 hac1 hac2
  go_enter Try.func47, Try.ntmps47
  by_cases hlen : nl = np
  · subst hlen
    have hq : ((nl : Int) != (nl : Int)) = false := by simp
    go_wp2_with fail
    clear i1
    go_loopg [20] nl (fun g iv wx => ∃ i : Nat, g = nl - i ∧ iv = .int .i64 (i : Int) ∧ i ≤ nl ∧ (∀ j p z, j < i → f.params[j]? = some p → l[j]? = some z → p.lo ≤ z ∧ z ≤ p.hi) ∧ Below W.heap.size W wx)
    case atStart => exact ⟨0, rfl, rfl, Nat.zero_le _, fun j p z h => by omega, Below.refl _ _⟩
    case round =>
      obtain ⟨i, hg, rfl, hi, hok, hb2⟩ := hrel
      have Hg := Lib.hid hg
      have Hi := Lib.hid (And.intro hok hb2)
      have HB2 : Hid (Below w0.heap.size w0 wr) := HB.out.trans (hb2.mono HB.out.size)
      clear hg hok hb2
      by_cases hin : i < nl
      · obtain ⟨p, hp⟩ : ∃ y, f.params[i]? = some y := ⟨_, List.getElem?_eq_getElem (by rw [← Hl.out.1]; exact hin)⟩
        obtain ⟨z, hz⟩ : ∃ y, l[i]? = some y := ⟨_, List.getElem?_eq_getElem (by rw [← Hl.out.2]; exact hin)⟩
        obtain ⟨bp, op, rfl, hbp, hP⟩ := Hrow.out.at (i := i) (by rw [← Hl.out.1]; exact hin)
        obtain ⟨ba, oa, rfl, hba, hca⟩ := intsIn_cell Ha.out hz
        obtain ⟨p0, p1, p2⟩ := (hP p hp).later HB2.out hbp
        obtain ⟨W3, hW3⟩ : ∃ W3, W3 = wr.alloc (.cells #[.string p.name, .int .i64 p.lo, .int .i64 p.hi] 63) := ⟨_, rfl⟩
        obtain ⟨D3, hD3⟩ : ∃ D, D = wr.heap.size := ⟨_, rfl⟩
        have hb3 : Below wr.heap.size wr W3 := by rw [hW3]; exact (Below.refl _ _).alloc (Nat.le_refl _) _
        have hp3 : PmAt W3 D3 0 p := by rw [hW3, hD3]; constructor <;> exact World.cell?_alloc_at _ _ _ _ rfl
        have k3 := (hb3.cell (p := ⟨ba, oa + i, none⟩) (Nat.lt_of_lt_of_le hba HB2.out.size)).trans ((HB2.out.cell (p := ⟨ba, oa + i, none⟩) hba).trans hca)
        have H3 := Lib.hid (Hi.out.2.trans (hb3.mono Hi.out.2.size))
        have HW3 := Lib.hid (And.intro hW3 hD3)
        have Hpz := Lib.hid (And.intro hp hz)
        have hin2 : (i : Int) < (nl : Int) := by omega
        have hd1 : decide ((i : Int) < (nl : Int)) = true := decide_eq_true hin2
        have hd2 : decide (i < nl) = true := decide_eq_true hin
        clear hp hz hP hca hW3 hD3 hb3
        go_upto_region 6 with (fail)
        rw [← HW3.out.2, ← HW3.out.1]
        clear p0 p1 p2
        obtain ⟨p0, p1, p2⟩ := hp3
        simp only [Nat.zero_add] at p1 p2
        by_cases hlo : z < p.lo
        · have Hbad : Hid (fitsB f.params l = false) := fitsB_hit Hpz.out.1 Hpz.out.2 (by omega)
          have hc1 : decide (z < p.lo) = true := decide_eq_true hlo
          clear hlo
          go_wp2_with (go_quiet (fail))
          go_ret
          exact ⟨by rw [Hbad.out]; rfl, below_drewN H3.out _⟩
        have hc1 : decide (z < p.lo) = false := decide_eq_false hlo
        by_cases hhi : p.hi < z
        · have Hbad : Hid (fitsB f.params l = false) := fitsB_hit Hpz.out.1 Hpz.out.2 (by omega)
          have hc2 : decide (p.hi < z) = true := decide_eq_true hhi
          clear hlo hhi
          go_wp2_with (go_quiet (fail))
          go_ret
          exact ⟨by rw [Hbad.out]; rfl, below_drewN H3.out _⟩
        · have hc2 : decide (p.hi < z) = false := decide_eq_false hhi
          have Hok : Hid (p.lo ≤ z ∧ z ≤ p.hi) := ⟨by omega, by omega⟩
          clear hlo hhi
          go_wp2_with (go_quiet (fail))
          go_roundg (nl - (i + 1))
          case measure => have := Hg.out; omega
          case rel => exact ⟨i + 1, rfl, by go_num, hin, fun j q y hj hq hy => by
            by_cases e : j = i
            · subst e; rw [Hpz.out.1] at hq; cases hq; rw [Hpz.out.2] at hy; cases hy; have := Hok.out; omega
            · exact Hi.out.1 j q y (by omega) hq hy, below_drewN H3.out _⟩
      · obtain rfl : nl = i := by omega
        have Hres : Hid (fitsB f.params l = true) := fitsB_all (by rw [← Hl.out.1, ← Hl.out.2]) fun j p z hp hz => Hi.out.1 j p z (by rw [Hl.out.2]; exact (List.getElem?_eq_some_iff.1 hz).1) hp hz
        go_wp2_with fail
        go_ret
        exact ⟨by rw [Hres.out]; rfl, Hi.out.2⟩
  · have hq : ((nl : Int) != (np : Int)) = true := by simp; omega
    have Hres : Hid (fitsB f.params l = false) := by show _ = _; unfold fitsB; rw [decide_eq_false (by rw [← Hl.out.1, ← Hl.out.2]; exact hlen)]; rfl
    clear hlen
    go_wp2_with fail
    go_ret
    exact ⟨by rw [Hres.out]; rfl, Below.refl _ _⟩
theorem Oth.far {S T : Nat → Prop} {W w w' : World} (h : Oth S W w) (h2 : Oth T w w') (hT : ∀ k, T k → S k ∨ W.heap.size ≤ k) : Oth S W w' := by
  have h3 := (h.weak (T := fun k => S k ∨ W.heap.size ≤ k) fun k hk => .inl hk).trans (h2.weak hT)
  exact ⟨h3.os, h3.tape, h3.output, h3.size, fun i hi hS => h3.block i hi fun e => e.elim hS (by omega)⟩
/-- The variables at the start: the parameters. -/
def parV (ps : List Pm) (l : List Int) : Nat → ByteArray → Int
  | 0 => fun _ => 0
  | i + 1 => upd (parV ps l i) ((ps.map (·.name)).getD i ⟨#[]⟩) (l.getD i 0)
theorem in64_upd {V : ByteArray → Int} (hV : ∀ s, in64 (V s)) (s : ByteArray) {z : Int} (hz : in64 z) : ∀ t, in64 (upd V s z t) := fun t => by unfold upd; split; exact hz; exact hV t
theorem VMap.made (w : World) (N : List ByteArray) : VMap (w.alloc (.map #[] 0)) w.heap.size N (fun _ => 0) := ⟨[], SMap.made w, by simp⟩
set_option maxRecDepth 100000 in
set_option maxHeartbeats 4000000 in
theorem mcall_any (f : Fn) (b o : Nat) (vp vb : Value) (va : Value) (l : List Int) (N : List ByteArray) (w0 : World) (hf : FnCells w0 b o f vp vb) (hb : b < w0.heap.size) (hp : RowOf w0 vp f.params.length 3 (fun b o k => ∀ y, f.params[k]? = some y → PmAt w0 b o y)) (hbody : StsIn w0 f.body vb) (ha : IntsIn w0 va l)
    (hfit : fitsB f.params l = true) (hN : N.length ≤ 1000) (hpn : ∀ p ∈ f.params, p.name ∈ N ∧ p.name.size ≤ 16) (hl64 : ∀ z ∈ l, in64 z) (hs : St.simps N f.body) (W : World) (r : Nat) (vw vf : Value) (most n : Int) (hB : Below w0.heap.size w0 W) (hr0 : w0.heap.size ≤ r) (hR : RnAt W r vw vf most n 0) (hn : 0 ≤ n) (hlt : n < most) (hmost : most ≤ 9223372036854775807) :
    Calls Try.prog 48 #[ptrV r, .pointer (some ⟨b, o, none⟩), va] W (fun E W' => E = .returned (.int .i64 (runsS most f.body ⟨parV f.params l f.params.length, 0, n + 1, 0⟩).2.v) ∧ RnAt W' r vw vf most (runsS most f.body ⟨parV f.params l f.params.length, 0, n + 1, 0⟩).2.r (runsS most f.body ⟨parV f.params l f.params.length, 0, n + 1, 0⟩).2.e ∧ Oth (· = r) W W') := by
  have Hfits := Lib.hid (fits_any f b o vp vb va l w0 W hf hb hp ha hB)
  rw [hfit] at Hfits
  have hlen : l.length = f.params.length := by unfold fitsB at hfit; simp only [Bool.and_eq_true, decide_eq_true_eq] at hfit; exact hfit.1
  obtain ⟨ap, cp, rfl, hpc1, hpc2⟩ := hp.form
  obtain ⟨_, aa, ca, rfl, hac1, hac2, -⟩ := id ha
  obtain ⟨ab, cb, rfl, -⟩ := hbody.form
  obtain ⟨np, hnp⟩ : ∃ n, n = f.params.length := ⟨_, rfl⟩
  obtain ⟨nb, hnb⟩ : ∃ n, n = f.body.length := ⟨_, rfl⟩
  have Hrow : Hid (RowOf w0 (.slice ap np cp) f.params.length 3 (fun b o k => ∀ y, f.params[k]? = some y → PmAt w0 b o y)) := by rw [hnp]; exact hp
  rw [hlen, ← hnp] at ha Hfits ⊢
  rw [← hnp, ← hnb] at hf
  rw [← hnb] at hbody
  have Hlist := Lib.hid (mlist_any N f.body _ w0 hbody hs)
  rw [← hnp] at hpc1
  have hnp62 : np ≤ 9223372036854775807 := by have : maxLen ≤ 9223372036854775807 := by decide
                                              omega
  have Hl := Lib.hid (And.intro hnp (hlen.trans hnp.symm))
  have Ha := Lib.hid ha
  have HB := Lib.hid hB
  have Hf := Lib.hid (And.intro hf hb)
  have Hpn := Lib.hid (And.intro hpn hl64)
  have HR := Lib.hid hR
  have hr1 := hR.in
  have Hround := fun (V : World) (h : RnAt V r vw vf most n 0) => round_any V r vw vf most n 0 h hn hmost
  have Hlt := Lib.hid hlt
  clear hfit hp ha hbody hf hb hs hnp hnb hlen hB hR hpc1 hpc2 hac1 hac2 hpn hl64 hlt
  go_enter Try.func48, Try.ntmps48
  go_wp2_with fail
  refine Hfits.out.mono ?_
  rintro E w2 ⟨rfl, hb2⟩
  have H2 := Lib.hid hb2
  have hround := Hround w2 (HR.out.later hb2)
  rw [decide_eq_true Hlt.out, if_pos Hlt.out, if_pos Hlt.out] at hround
  have HRd := Lib.hid hround
  clear hb2 hround Hround Hfits
  go_wp2_with fail
  refine HRd.out.mono ?_
  rintro E w3 ⟨rfl, hR3, hO3⟩
  obtain ⟨mb, hmb⟩ : ∃ b, b = w3.heap.size := ⟨_, rfl⟩
  obtain ⟨W4, hW4⟩ : ∃ W4, W4 = (((w3.alloc (.map #[] 0)).alloc (.map #[] 0)).alloc (.map #[] 0)).alloc (.cells #[ptrV r, .map (some mb), .map (some (mb + 1)), .map (some (mb + 1 + 1)), .int .i64 0] 129) := ⟨_, rfl⟩
  obtain ⟨c, hc⟩ : ∃ c, c = mb + 1 + 1 + 1 := ⟨_, rfl⟩
  have q1 : (w3.alloc (.map #[] 0)).heap.size = mb + 1 := by rw [hmb]; simp
  have q2 : ((w3.alloc (.map #[] 0)).alloc (.map #[] 0)).heap.size = mb + 2 := by rw [hmb]; simp
  have q3 : (((w3.alloc (.map #[] 0)).alloc (.map #[] 0)).alloc (.map #[] 0)).heap.size = mb + 3 := by rw [hmb]; simp
  have hb4 : Below w3.heap.size w3 W4 := by rw [hW4]; exact ((((Below.refl _ _).alloc (Nat.le_refl _) _).alloc (by (try simp only [World.size_alloc]); (try simp only [size_set]); omega) _).alloc (by (try simp only [World.size_alloc]); (try simp only [size_set]); omega) _).alloc (by (try simp only [World.size_alloc]); (try simp only [size_set]); omega) _
  have hr3 : r < mb := by rw [hmb]; exact hR3.in
  have hF4 : FrAt W4 c r mb vw vf most N ⟨parV f.params l 0, 0, n + 1, 0⟩ := by
    have hm := VMap.made w3 N
    have hm2 : VMap W4 mb N (fun _ => 0) := by
      rw [hW4, hmb]
      exact ((hm.later ((Below.refl (w3.heap.size + 1) _).alloc (by (try simp only [World.size_alloc]); (try simp only [size_set]); omega) _) (Nat.lt_succ_self _)).later ((Below.refl (w3.heap.size + 1) _).alloc (by (try simp only [World.size_alloc]); (try simp only [size_set]); omega) _) (Nat.lt_succ_self _)).later ((Below.refl (w3.heap.size + 1) _).alloc (by (try simp only [World.size_alloc]); (try simp only [size_set]); omega) _) (Nat.lt_succ_self _)
    refine ⟨hR3.later hb4, ?_, ?_, ?_, ?_, hm2, ⟨hr3, by omega⟩, fun s => by show in64 0; unfold in64; omega, hN⟩
    · rw [hW4]; exact World.cell?_alloc_at _ _ _ _ (hc.trans q3.symm)
    · rw [hW4]; exact World.cell?_alloc_at _ _ _ _ (hc.trans q3.symm)
    · rw [hW4]; exact World.cell?_alloc_at _ _ _ _ (hc.trans q3.symm)
    · rw [hW4]; exact World.frozen?_alloc_at _ _ _ _ (hc.trans q3.symm)
  have hmm := @run_makeMap Try.prog
  have HW4 := Lib.hid (And.intro hW4 (And.intro hmb hc))
  have hcW : W.heap.size ≤ c := by
    have h1 := H2.out.size
    have h2 := hO3.size
    omega
  have hlt4 := hF4.lt
  have hO04 : Oth (· = r) W W4 := ((Oth.of_below H2.out).trans hO3).trans (.of_below hb4)
  have H4 := Lib.hid (And.intro hF4 hO04)
  have HB4 : Hid (Below w0.heap.size w0 W4) := HB.out.trans (hO04.below HB.out.size fun k (e : k = r) => by omega)
  have hmbW : W.heap.size ≤ mb := by
    have h1 := H2.out.size
    have h2 := hO3.size
    omega
  have i1 := (Hf.out.1.later HB4.out Hf.out.2).c1
  clear hmb hW4 q1 q2 q3 hb4 hc hF4 hO04 hR3 hO3 HRd
  go_upto_region 7 with (fail)
  rw [← HW4.out.2.1, ← HW4.out.1, ← HW4.out.2.2]
  go_wp2_with fail
  clear i1 hmm
  go_loopg [30] np (fun g iv wx => ∃ i : Nat, g = np - i ∧ iv = .int .i64 (i : Int) ∧ i ≤ np ∧ FrAt wx c r mb vw vf most N ⟨parV f.params l i, 0, n + 1, 0⟩ ∧ Oth (· = r) W wx)
  case atStart => exact ⟨0, rfl, rfl, Nat.zero_le _, H4.out.1, H4.out.2⟩
  case round =>
    obtain ⟨i, hg, rfl, hi, hF5, hO5⟩ := hrel
    have Hg := Lib.hid hg
    have H5 := Lib.hid (And.intro hF5 hO5)
    have HB5 : Hid (Below w0.heap.size w0 wr) := HB.out.trans (hO5.below HB.out.size fun k (e : k = r) => by omega)
    have c4 := hF5.c4
    have i2 := (Hf.out.1.later HB5.out Hf.out.2).c2
    have hcin := hF5.in
    clear hg hF5 hO5
    by_cases hin : i < np
    · obtain ⟨p, hp⟩ : ∃ y, f.params[i]? = some y := ⟨_, List.getElem?_eq_getElem (by rw [← Hl.out.1]; exact hin)⟩
      obtain ⟨z, hz⟩ : ∃ y, l[i]? = some y := ⟨_, List.getElem?_eq_getElem (by rw [Hl.out.2]; exact hin)⟩
      obtain ⟨bp, op, rfl, hbp, hP⟩ := Hrow.out.at (i := i) (by rw [← Hl.out.1]; exact hin)
      obtain ⟨ba, oa, rfl, hba, hca⟩ := intsIn_cell Ha.out hz
      obtain ⟨p0, p1, p2⟩ := (hP p hp).later HB5.out hbp
      have hpn := Hpn.out.1 p (List.mem_of_getElem? hp)
      have hz64 := Hpn.out.2 z (List.mem_of_getElem? hz)
      have Hpz := Lib.hid (And.intro hpn hz64)
      obtain ⟨W6, hW6⟩ : ∃ W3, W3 = wr.alloc (.cells #[.string p.name, .int .i64 p.lo, .int .i64 p.hi] 63) := ⟨_, rfl⟩
      obtain ⟨Y, hY⟩ : ∃ D, D = wr.heap.size := ⟨_, rfl⟩
      have hb6 : Below wr.heap.size wr W6 := by rw [hW6]; exact (Below.refl _ _).alloc (Nat.le_refl _) _
      have y0 : W6.cell? ⟨Y, 0, none⟩ = some (.string p.name) := by rw [hW6, hY]; exact World.cell?_alloc_at _ _ _ _ rfl
      have qY : Y < W6.heap.size := block_lt_of_cell y0
      have k3 := (hb6.cell (p := ⟨ba, oa + i, none⟩) (Nat.lt_of_lt_of_le hba HB5.out.size)).trans ((HB5.out.cell (p := ⟨ba, oa + i, none⟩) hba).trans hca)
      have hba6 : ba < W6.heap.size := Nat.lt_of_lt_of_le (Nat.lt_of_lt_of_le hba HB5.out.size) hb6.size
      have H6 := Lib.hid (And.intro (H5.out.1.later hb6) (H5.out.2.trans (.of_below hb6)))
      have HW6 := Lib.hid (And.intro hW6 hY)
      have Hc := Lib.hid (And.intro y0 k3)
      have Hnx : Hid (upd (parV f.params l i) p.name z = parV f.params l (i + 1)) := by
        show _ = _
        simp only [parV]
        rw [List.getD_eq_getElem?_getD, List.getElem?_map, hp, List.getD_eq_getElem?_getD, hz]
        rfl
      clear hp hz hP hca hW6 hY hb6 y0 k3 c4 i2 hpn hz64
      go_upto_region 10 with (fail)
      rw [← HW6.out.2, ← HW6.out.1]
      clear p0 p1 p2
      refine wp_region_heldZ (S := fun w => w.cell? ⟨c, 1, none⟩ = some (.map (some mb)) ∧ w.cell? ⟨Y, 0, none⟩ = some (.string p.name) ∧ w.cell? ⟨ba, oa + i, none⟩ = some (.int .i64 z)) (z := 10) rfl ?_
      change wpAnyZ _ _ _ _ _ _ _ _ _ W6.drew
      obtain ⟨W0, hW0⟩ : ∃ W0, W0 = W6.drew := ⟨_, rfl⟩
      rw [← hW0]
      have hb0 : Below W6.heap.size W6 W0 := by rw [hW0]; exact (Below.refl _ _).drew
      have HF0 := Lib.hid (And.intro (H6.out.1.later hb0) (H6.out.2.trans (.of_below hb0)))
      have Hb : Hid (W0.cell? ⟨c, 1, none⟩ = some (.map (some mb)) ∧ W0.cell? ⟨Y, 0, none⟩ = some (.string p.name) ∧ W0.cell? ⟨ba, oa + i, none⟩ = some (.int .i64 z)) := ⟨HF0.out.1.c1, (hb0.cell (p := ⟨Y, 0, none⟩) qY).trans Hc.out.1, (hb0.cell (p := ⟨ba, oa + i, none⟩) hba6).trans Hc.out.2⟩
      clear hb0 hW0
      refine wpAnyZ_take (i := 0) (by simp only [List.getElem?_toArray, List.getElem?_cons_zero]; rfl) (by kernel_rfl) (by kernel_rfl) (by kernel_rfl) (by kernel_rfl) (by intro _ _ _ h; exact h) (Or.inl ⟨by rfl, fun w hw => by (obtain ⟨z1, z2, z3⟩ := hw; go_simp; try rfl)⟩) Hb.out ?_
      refine wpAnyZ_take (i := 1) (by simp only [List.getElem?_toArray, List.getElem?_cons_succ, List.getElem?_cons_zero]; rfl) (by kernel_rfl) (by kernel_rfl) (by kernel_rfl) (by kernel_rfl) (by intro _ _ _ h; exact h) (Or.inl ⟨by rfl, fun w hw => by (obtain ⟨z1, z2, z3⟩ := hw; go_simp; try rfl)⟩) Hb.out ?_
      go_frame
      refine wpAnyZ_take (i := 2) (by simp only [List.getElem?_toArray, List.getElem?_cons_succ, List.getElem?_cons_zero]; rfl) (by kernel_rfl) (by kernel_rfl) (by kernel_rfl) (by kernel_rfl) (by intro _ _ _ h; exact h) (Or.inl ⟨by rfl, fun w hw => by (obtain ⟨z1, z2, z3⟩ := hw; go_simp; try rfl)⟩) Hb.out ?_
      refine wpAnyZ_take (i := 3) (by simp only [List.getElem?_toArray, List.getElem?_cons_succ, List.getElem?_cons_zero]; rfl) (by kernel_rfl) (by kernel_rfl) (by kernel_rfl) (by kernel_rfl) (by intro _ _ _ h; exact h) (Or.inl ⟨by rfl, fun w hw => by (obtain ⟨z1, z2, z3⟩ := hw; go_simp; try rfl)⟩) Hb.out ?_
      go_frame
      refine wpAnyZ_take (i := 4) (by simp only [List.getElem?_toArray, List.getElem?_cons_succ, List.getElem?_cons_zero]; rfl) (by kernel_rfl) (by kernel_rfl) (by kernel_rfl) (by kernel_rfl) (by intro _ _ _ h; exact h) (Or.inl ⟨by rfl, fun w hw => by (obtain ⟨z1, z2, z3⟩ := hw; go_simp; try rfl)⟩) Hb.out ?_
      refine wpAnyZ_take (i := 5) (by simp only [List.getElem?_toArray, List.getElem?_cons_succ, List.getElem?_cons_zero]; rfl) (by kernel_rfl) (by kernel_rfl) (by kernel_rfl) (by kernel_rfl) (by intro _ _ _ h; exact h) (Or.inl ⟨by rfl, fun w hw => by (obtain ⟨z1, z2, z3⟩ := hw; go_simp; try rfl)⟩) Hb.out ?_
      go_frame
      refine wpAnyZ_take (i := 6) (by simp only [List.getElem?_toArray, List.getElem?_cons_succ, List.getElem?_cons_zero]; rfl) (by kernel_rfl) (by kernel_rfl) (by kernel_rfl) (by kernel_rfl) (by intro _ _ _ h; exact h) (Or.inl ⟨by rfl, fun w hw => by (obtain ⟨z1, z2, z3⟩ := hw; go_simp; try rfl)⟩) Hb.out ?_
      refine wpAnyZ_take (i := 7) (by simp only [List.getElem?_toArray, List.getElem?_cons_succ, List.getElem?_cons_zero]; rfl) (by kernel_rfl) (by kernel_rfl) (by kernel_rfl) (by kernel_rfl) (by intro _ _ _ h; exact h) (Or.inl ⟨by rfl, fun w hw => by (obtain ⟨z1, z2, z3⟩ := hw; go_simp; try rfl)⟩) Hb.out ?_
      go_frame
      refine wpAnyZ_take (i := 8) (by simp only [List.getElem?_toArray, List.getElem?_cons_succ, List.getElem?_cons_zero]; rfl) (by kernel_rfl) (by kernel_rfl) (by kernel_rfl) (by kernel_rfl) (by intro _ _ _ h; exact h) (Or.inl ⟨by rfl, fun w hw => by (obtain ⟨z1, z2, z3⟩ := hw; go_simp; try rfl)⟩) Hb.out ?_
      refine wpAnyZ_take (i := 9) (by simp only [List.getElem?_toArray, List.getElem?_cons_succ, List.getElem?_cons_zero]; rfl) (by kernel_rfl) (by kernel_rfl) (by kernel_rfl) (by kernel_rfl) (by intro _ _ _ h; exact h) (Or.inl ⟨by rfl, fun w hw => by (obtain ⟨z1, z2, z3⟩ := hw; go_simp; try rfl)⟩) Hb.out ?_
      go_frame
      refine wpAnyZ_next (i := 10) (by kernel_rfl) (by simp only [List.getElem?_toArray, List.getElem?_cons_succ, List.getElem?_cons_zero]; rfl) (fun Kc hKc => ?_)
      obtain ⟨w7, hrun, hv7, hO7⟩ := HF0.out.1.map.put HF0.out.1.few p.name Hpz.out.1.1 Hpz.out.1.2 z
      have hF7 := HF0.out.1.putV hO7 hv7 Hpz.out.2
      rw [show upd (MS.V ⟨parV f.params l i, 0, n + 1, 0⟩) p.name z = parV f.params l (i + 1) from Hnx.out] at hF7
      have H7 := Lib.hid (And.intro hF7 (HF0.out.2.far hO7 fun k (e : k = mb) => .inr (by omega)))
      clear hv7 hO7 hF7
      go_simp
      refine hKc.out _ _ (fun h => absurd rfl h) ?_
      clear hKc Kc hrun
      refine wpAnyZ_done (by kernel_rfl) ?_ _
      go_wp2_with fail
      go_roundg (np - (i + 1))
      case measure => have := Hg.out; omega
      case rel => exact ⟨i + 1, rfl, by go_num, hin, H7.out.1, H7.out.2⟩
    · obtain rfl : np = i := by omega
      have hcl := Hlist.out wr c r mb vw vf most ⟨parV f.params l np, 0, n + 1, 0⟩ HB5.out hr0 H5.out.1 rfl (show 0 ≤ n + 1 by omega) hmost
      obtain ⟨q, hq⟩ : ∃ q, q = runsS most f.body ⟨parV f.params l np, 0, n + 1, 0⟩ := ⟨_, rfl⟩
      rw [← hq] at hcl
      have Hcl := Lib.hid hcl
      have Hq : Hid (q = runsS most f.body ⟨parV f.params l np, 0, n + 1, 0⟩) := hq
      clear hcl hq c4 hin
      go_wp2_with fail
      refine Hcl.out.mono ?_
      rintro E w8 ⟨rfl, hF8, hO8⟩
      have H8 := Lib.hid (And.intro hF8 (H5.out.2.far hO8 fun k hk => by rcases hk with e | e | e; exact .inl e; exact .inr (by omega); exact .inr (by omega)))
      have k4 := hF8.c4
      clear hF8 hO8 i2 Hcl
      go_wp2_with fail
      go_ret
      exact ⟨by rw [← Hq.out]; rfl, by rw [← Hq.out]; exact H8.out.1.run, H8.out.2⟩
end Go.Proofs.Ytgcplcffejbniaa
