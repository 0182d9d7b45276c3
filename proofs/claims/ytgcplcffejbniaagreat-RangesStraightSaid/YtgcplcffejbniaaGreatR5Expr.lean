/- R5's look at ranges: bounds, calls, cases. -/
import Derived.Test.YtgcplcffejbniaaGreatR5Base
import Derived.Deep.RegionHeld3
namespace Go.Proofs.YtgcplcffejbniaaGreat
open Go.RowKit Go.Maps

mutual
/-- Is an expression a bound? -/
def Ex.bnd (K : Known) : Ex → Bool
  | .mk k _ s l => if k = 1 then true else if k = 2 then cntO K s else if k = 5 ∨ k = 7 ∨ k = 8 ∨ k = 9 then Ex.bnds K l else false
def Ex.bnds (K : Known) : List Ex → Bool
  | [] => true
  | x :: l => Ex.bnd K x && Ex.bnds K l
end
theorem Ex.bnd_eq (K : Known) (x : Ex) : x.bnd K = if x.kind = 1 then true else if x.kind = 2 then cntO K x.name else if x.kind = 5 ∨ x.kind = 7 ∨ x.kind = 8 ∨ x.kind = 9 then Ex.bnds K x.args else false := by cases x; simp only [Ex.bnd, Ex.kind, Ex.name, Ex.args]; rfl
theorem Ex.bnds_all {K : Known} {l : List Ex} (h : ∀ (i : Nat) y, l[i]? = some y → y.bnd K = true) : Ex.bnds K l = true := by
  induction l with
  | nil => rfl
  | cons y l ih => simp only [Ex.bnds, h 0 y rfl, ih fun i z hz => h (i + 1) z (by simpa using hz)]; rfl
theorem Ex.bnds_hit {K : Known} {l : List Ex} {i : Nat} {y : Ex} (h : l[i]? = some y) (hy : y.bnd K = false) : Ex.bnds K l = false := by
  induction l generalizing i with
  | nil => simp at h
  | cons z l ih =>
    cases i with
    | zero => simp at h; subst h; simp [Ex.bnds, hy]
    | succ i => simp only [Ex.bnds, ih (i := i) (by simpa using h), Bool.and_false]
def B5Ok (w0 : World) (l : List Ex) (v : Value) : Prop := ∀ x : Ex, x.args = l → ∀ (W : World) (c : Nat) (vw vf kv : Value) (K : Known) (n e : Int), Below w0.heap.size w0 W → W5At W c vw vf kv K n e → K.length ≤ 100000 →
  Calls Tryz.prog 51 #[ptrV c, exVal x v] W (Gives (.bool (x.bnd K)) W)
set_option maxRecDepth 100000 in
set_option maxHeartbeats 4000000 in
theorem bound5_any (l : List Ex) (v : Value) (w0 : World) (h : ExsIn w0 l v) : B5Ok w0 l v := by
  induction h with
  | mk l v vs h each ih =>
  intro x hx W c vw vf kv K n e hB hK hKl
  obtain ⟨a, cap, rfl, hncap, hcap⟩ := h.form
  obtain ⟨m, hm⟩ : ∃ m, m = l.length := ⟨_, rfl⟩
  have Hm := Lib.hid hm
  have Hrow : Hid (RowOf w0 (.slice a m cap) l.length 4 (fun b o i => ∀ x, l[i]? = some x → ExAt w0 b o x (vs i))) := by rw [hm]; exact h
  have Hih := Lib.hid (And.intro ih each)
  rw [← hm]
  rw [← hm] at hncap
  have hn62 : m ≤ 9223372036854775807 := by have : maxLen ≤ 9223372036854775807 := by decide
                                            omega
  have Hx := Lib.hid hx
  obtain ⟨W1, hW1⟩ : ∃ W1, W1 = W.alloc (.cells #[.int .i64 x.kind, .int .i64 x.n, .string x.name, .slice a m cap] 35) := ⟨_, rfl⟩
  obtain ⟨D, hD⟩ : ∃ D, D = W.heap.size := ⟨_, rfl⟩
  have hb1 : Below W.heap.size W W1 := by rw [hW1]; exact (Below.refl _ _).alloc (Nat.le_refl _) _
  have he1 : ExAt W1 D 0 x (.slice a m cap) := by rw [hW1, hD]; constructor <;> exact World.cell?_alloc_at _ _ _ _ rfl
  have q1 : D < W1.heap.size := by rw [hW1, hD]; simp
  have H1 := Lib.hid (And.intro hb1 (And.intro he1 (And.intro (hB.trans (hb1.mono hB.size)) (hK.later hb1))))
  have HW1 := Lib.hid (And.intro hW1 hD)
  have HKl := Lib.hid hKl
  unfold exVal
  clear h ih each hm hx hb1 he1 hW1 hD hB hK
  go_enter Tryz.func51, Tryz.ntmps51
  go_upto_region 1 with (fail)
  rw [← HW1.out.2, ← HW1.out.1]
  obtain ⟨i0, i1, i2, i3⟩ := H1.out.2.1
  simp only [Nat.zero_add] at i0 i1 i2 i3
  by_cases h1 : x.kind = 1
  · have hq : (x.kind == 1) = true := by simp [h1]
    have Hr : Hid (x.bnd K = true) := by show _ = _; rw [Ex.bnd_eq, if_pos h1]
    clear h1
    go_wp2_with fail
    go_ret
    exact ⟨by rw [Hr.out]; rfl, H1.out.1⟩
  have hq1 : (x.kind == 1) = false := by simp [h1]
  by_cases h2 : x.kind = 2
  · have hq : (x.kind == 2) = true := by simp [h2]
    have Hr : Hid (x.bnd K = cntO K x.name) := by show _ = _; rw [Ex.bnd_eq, if_neg h1, if_pos h2]
    clear h1 h2
    go_wp2_with fail
    refine (counts5_any W1 c vw vf kv K n e x.name H1.out.2.2.2 HKl.out).mono ?_
    rintro E w2 ⟨rfl, hw⟩
    rw [← hw, ← Hr.out]
    clear hw
    go_wp2_with fail
    go_ret
    exact ⟨rfl, H1.out.1⟩
  have hq2 : (x.kind == 2) = false := by simp [h2]
  by_cases h5 : x.kind = 5 ∨ x.kind = 7 ∨ x.kind = 8 ∨ x.kind = 9
  · have Hr : Hid (x.bnd K = Ex.bnds K l) := by show _ = _; rw [Ex.bnd_eq, if_neg h1, if_neg h2, if_pos h5, Hx.out]
    have hk : ((x.kind == 5) = true) ∨ ((x.kind == 5) = false ∧ (x.kind == 7) = true) ∨ ((x.kind == 5) = false ∧ (x.kind == 7) = false ∧ (x.kind == 8) = true) ∨ ((x.kind == 5) = false ∧ (x.kind == 7) = false ∧ (x.kind == 8) = false ∧ (x.kind == 9) = true) := by
      rcases h5 with h | h | h | h
      · exact .inl (by simp [h])
      · exact .inr (.inl ⟨by simp [h], by simp [h]⟩)
      · exact .inr (.inr (.inl ⟨by simp [h], by simp [h], by simp [h]⟩))
      · exact .inr (.inr (.inr ⟨by simp [h], by simp [h], by simp [h], by simp [h]⟩))
    clear h1 h2 h5
    rcases hk with hk | ⟨hk, hk2⟩ | ⟨hk, hk2, hk3⟩ | ⟨hk, hk2, hk3, hk4⟩
    all_goals
      go_wp2_with fail
      clear i0 i1 i2
      go_loopg [5] m (fun g iv wx => ∃ i : Nat, g = m - i ∧ iv = .int .i64 (i : Int) ∧ i ≤ m ∧ (∀ j y, j < i → l[j]? = some y → y.bnd K = true) ∧ Below W1.heap.size W1 wx)
      case atStart => exact ⟨0, rfl, rfl, Nat.zero_le _, fun j y h => by omega, Below.refl _ _⟩
      case round =>
        obtain ⟨i, hg, rfl, hi, hn, hb⟩ := hrel
        have Hg := Lib.hid hg
        have Hn := Lib.hid (And.intro hn hb)
        have d3 := (hb.cell (p := ⟨D, 3, none⟩) q1).trans i3
        have HBr : Hid (Below w0.heap.size w0 wr) := H1.out.2.2.1.trans (hb.mono H1.out.2.2.1.size)
        clear hg hn hb
        by_cases him : i < m
        · obtain ⟨y, hy⟩ : ∃ y, l[i]? = some y := ⟨_, List.getElem?_eq_getElem (by rw [← Hm.out]; exact him)⟩
          obtain ⟨b, off, rfl, hb, hP⟩ := Hrow.out.at (i := i) (by rw [← Hm.out]; exact him)
          have hey := (hP y hy).later HBr.out hb
          have ihy := Hih.out.1 i y hy y rfl
          obtain ⟨a', cap', hvs, -⟩ := (Hih.out.2 i y hy).form
          obtain ⟨m', hm'⟩ : ∃ m', m' = y.args.length := ⟨_, rfl⟩
          rw [hvs, ← hm'] at hey ihy
          obtain ⟨j0, j1, j2, j3⟩ := hey
          have Hy := Lib.hid hy
          have Hcall := Lib.hid (ihy wr c vw vf kv K n e HBr.out (H1.out.2.2.2.later Hn.out.2) HKl.out)
          clear hP hy ihy hvs hm'
          go_wp2_with fail
          refine Hcall.out.mono ?_
          rintro E w5 ⟨rfl, hb5⟩
          obtain ⟨z, hz⟩ : ∃ z, z = y.bnd K := ⟨_, rfl⟩
          rw [← hz]
          have Hz := Lib.hid hz
          have H5 := Lib.hid (Hn.out.2.trans (hb5.mono Hn.out.2.size))
          clear hz hb5 j0 j1 j2 j3 d3 Hcall
          cases z
          · go_wp2_with fail
            go_ret
            exact ⟨by rw [Hr.out, Ex.bnds_hit Hy.out Hz.out.symm]; rfl, H1.out.1.trans (H5.out.mono H1.out.1.size)⟩
          · go_wp2_with fail
            go_roundg (m - (i + 1))
            case measure => have := Hg.out; omega
            case rel => exact ⟨i + 1, rfl, by go_num, him, fun j t hj ht => by
              by_cases e : j = i
              · subst e; rw [Hy.out] at ht; cases ht; exact Hz.out.symm
              · exact Hn.out.1 j t (by omega) ht, H5.out⟩
        · obtain rfl : m = i := by omega
          have Hall : Hid (Ex.bnds K l = true) := Ex.bnds_all fun j y hy => Hn.out.1 j y (by rw [Hm.out]; exact (List.getElem?_eq_some_iff.1 hy).1) hy
          go_wp2_with fail
          go_ret
          exact ⟨by rw [Hr.out, Hall.out]; rfl, H1.out.1.trans (Hn.out.2.mono H1.out.1.size)⟩
  · have Hr : Hid (x.bnd K = false) := by show _ = _; rw [Ex.bnd_eq, if_neg h1, if_neg h2, if_neg h5]
    have hq5 : (x.kind == 5) = false := by simp; omega
    have hq7 : (x.kind == 7) = false := by simp; omega
    have hq8 : (x.kind == 8) = false := by simp; omega
    have hq9 : (x.kind == 9) = false := by simp; omega
    clear h1 h2 h5
    go_wp2_with fail
    go_ret
    exact ⟨by rw [Hr.out]; rfl, H1.out.1⟩
end Go.Proofs.YtgcplcffejbniaaGreat
