/- R5's straight is ranges.alone, where the form is right. -/
import Derived.Test.YtgcplcffejbniaaGreatR5Base
import Derived.Test.YtgcplcffejbniaaGreatR5Spec
/- R5: has an expression no names, or a choice? -/
namespace Go.Proofs.YtgcplcffejbniaaGreat
open Go.RowKit Go.Maps

theorem evrs_all {q : Ex → Bool} {l : List Ex} (h : ∀ (i : Nat) y, l[i]? = some y → y.evr q = true) : Ex.evrs q l = true := by
  induction l with
  | nil => rfl
  | cons y l ih => simp only [Ex.evrs, h 0 y rfl, ih fun i z hz => h (i + 1) z (by simpa using hz)]; rfl
theorem evrs_hit {q : Ex → Bool} {l : List Ex} {i : Nat} {y : Ex} (h : l[i]? = some y) (hy : y.evr q = false) : Ex.evrs q l = false := by
  induction l generalizing i with
  | nil => simp at h
  | cons z l ih =>
    cases i with
    | zero => simp at h; subst h; simp [Ex.evrs, hy]
    | succ i => simp only [Ex.evrs, ih (i := i) (by simpa using h), Bool.and_false]
theorem nil_bytes : (⟨#[]⟩ : ByteArray).toList = [] := by simp [ByteArray.toList_eq]
/-- No choice by its kind. -/
def choQ (x : Ex) : Bool := decide (x.kind ≠ 18 ∧ x.kind ≠ 19 ∧ x.kind ≠ 20)
def P5Ok (w0 : World) (l : List Ex) (v : Value) : Prop := ∀ x : Ex, x.args = l → ∀ (W : World), Below w0.heap.size w0 W →
  Calls Tryz.prog 38 #[exVal x v] W (Gives (.bool (x.evr plainQ)) W)
set_option maxRecDepth 100000 in
set_option maxHeartbeats 4000000 in
theorem plain5_any (l : List Ex) (v : Value) (w0 : World) (h : ExsIn w0 l v) : P5Ok w0 l v := by
  induction h with
  | mk l v vs h each ih =>
  intro x hx W hB
  obtain ⟨a, cap, rfl, hncap, hcap⟩ := h.form
  obtain ⟨m, hm⟩ : ∃ m, m = l.length := ⟨_, rfl⟩
  have Hm := Lib.hid hm
  have Hrow : Hid (RowOf w0 (.slice a m cap) l.length 4 (fun b o i => ∀ x, l[i]? = some x → ExAt w0 b o x (vs i))) := by rw [hm]; exact h
  have Hih := Lib.hid (And.intro ih each)
  rw [← hm]
  rw [← hm] at hncap
  have hn62 : m ≤ 9223372036854775807 := by have : maxLen ≤ 9223372036854775807 := by decide
                                            omega
  have Hx := Lib.hid hx
  obtain ⟨W1, hW1⟩ : ∃ W1, W1 = W.alloc (.cells #[.int .i64 x.kind, .int .i64 x.n, .string x.name, .slice a m cap] 35) := ⟨_, rfl⟩
  obtain ⟨D, hD⟩ : ∃ D, D = W.heap.size := ⟨_, rfl⟩
  have hb1 : Below W.heap.size W W1 := by rw [hW1]; exact (Below.refl _ _).alloc (Nat.le_refl _) _
  have he1 : ExAt W1 D 0 x (.slice a m cap) := by rw [hW1, hD]; constructor <;> exact World.cell?_alloc_at _ _ _ _ rfl
  have q1 : D < W1.heap.size := by rw [hW1, hD]; simp
  have H1 := Lib.hid (And.intro hb1 (And.intro he1 (hB.trans (hb1.mono hB.size))))
  have HW1 := Lib.hid (And.intro hW1 hD)
  unfold exVal
  clear h ih each hm hx hb1 he1 hW1 hD hB
  go_enter Tryz.func38, Tryz.ntmps38
  go_upto_region 1 with (fail)
  rw [← HW1.out.2, ← HW1.out.1]
  obtain ⟨i0, i1, i2, i3⟩ := H1.out.2.1
  simp only [Nat.zero_add] at i0 i1 i2 i3
  have Hr : Hid (x.evr plainQ = (plainQ x && Ex.evrs plainQ l)) := by show _ = _; rw [Ex.evr_eq, Hx.out]
  have Hi2 := Lib.hid i2
  go_wp2_with fail
  clear i0 i1 i2
  go_loopg [3] m (fun g iv wx => ∃ i : Nat, g = m - i ∧ iv = .int .i64 (i : Int) ∧ i ≤ m ∧ (∀ j y, j < i → l[j]? = some y → y.evr plainQ = true) ∧ Below W1.heap.size W1 wx)
  case atStart => exact ⟨0, rfl, rfl, Nat.zero_le _, fun j y h => by omega, Below.refl _ _⟩
  case round =>
    obtain ⟨i, hg, rfl, hi, hn, hb⟩ := hrel
    have Hg := Lib.hid hg
    have Hn := Lib.hid (And.intro hn hb)
    have d3 := (hb.cell (p := ⟨D, 3, none⟩) q1).trans i3
    have d2 := (hb.cell (p := ⟨D, 2, none⟩) q1).trans Hi2.out
    have HBr : Hid (Below w0.heap.size w0 wr) := H1.out.2.2.trans (hb.mono H1.out.2.2.size)
    clear hg hn hb
    by_cases him : i < m
    · obtain ⟨y, hy⟩ : ∃ y, l[i]? = some y := ⟨_, List.getElem?_eq_getElem (by rw [← Hm.out]; exact him)⟩
      obtain ⟨b, off, rfl, hb, hP⟩ := Hrow.out.at (i := i) (by rw [← Hm.out]; exact him)
      have hey := (hP y hy).later HBr.out hb
      have ihy := Hih.out.1 i y hy y rfl
      obtain ⟨a', cap', hvs, -⟩ := (Hih.out.2 i y hy).form
      obtain ⟨m', hm'⟩ : ∃ m', m' = y.args.length := ⟨_, rfl⟩
      rw [hvs, ← hm'] at hey ihy
      obtain ⟨j0, j1, j2, j3⟩ := hey
      have Hy := Lib.hid hy
      have Hcall := Lib.hid (ihy wr HBr.out)
      clear hP hy ihy hvs hm' d2
      go_wp2_with fail
      refine Hcall.out.mono ?_
      rintro E w5 ⟨rfl, hb5⟩
      obtain ⟨z, hz⟩ : ∃ z, z = y.evr plainQ := ⟨_, rfl⟩
      rw [← hz]
      have Hz := Lib.hid hz
      have H5 := Lib.hid (Hn.out.2.trans (hb5.mono Hn.out.2.size))
      clear hz hb5 j0 j1 j2 j3 d3 Hcall
      cases z
      · go_wp2_with fail
        go_ret
        exact ⟨by rw [Hr.out, evrs_hit Hy.out Hz.out.symm, Bool.and_false]; rfl, H1.out.1.trans (H5.out.mono H1.out.1.size)⟩
      · go_wp2_with fail
        go_roundg (m - (i + 1))
        case measure => have := Hg.out; omega
        case rel => exact ⟨i + 1, rfl, by go_num, him, fun j t hj ht => by
          by_cases e : j = i
          · subst e; rw [Hy.out] at ht; cases ht; exact Hz.out.symm
          · exact Hn.out.1 j t (by omega) ht, H5.out⟩
    · obtain rfl : m = i := by omega
      have Hall : Hid (Ex.evrs plainQ l = true) := evrs_all fun j y hy => Hn.out.1 j y (by rw [Hm.out]; exact (List.getElem?_eq_some_iff.1 hy).1) hy
      by_cases he : x.name = ⟨#[]⟩
      · have hq2 : (x.name.toList == (⟨#[]⟩ : ByteArray).toList) = true := by rw [bytes_beq]; exact decide_eq_true he
        have hq : (x.name.toList == ([] : List UInt8)) = true := by rw [← nil_bytes]; exact hq2
        have Hp : Hid (x.evr plainQ = true) := by show _ = _; rw [Hr.out, Hall.out]; simp [plainQ, he]
        clear he
        go_wp2_with fail
        go_ret
        exact ⟨by rw [Hp.out]; rfl, H1.out.1.trans (Hn.out.2.mono H1.out.1.size)⟩
      · have hq2 : (x.name.toList == (⟨#[]⟩ : ByteArray).toList) = false := by rw [bytes_beq]; exact decide_eq_false he
        have hq : (x.name.toList == ([] : List UInt8)) = false := by rw [← nil_bytes]; exact hq2
        have Hp : Hid (x.evr plainQ = false) := by show _ = _; rw [Hr.out, Hall.out]; simp [plainQ, he]
        clear he
        go_wp2_with fail
        go_ret
        exact ⟨by rw [Hp.out]; rfl, H1.out.1.trans (Hn.out.2.mono H1.out.1.size)⟩
def C5Ok (w0 : World) (l : List Ex) (v : Value) : Prop := ∀ x : Ex, x.args = l → ∀ (W : World), Below w0.heap.size w0 W →
  Calls Tryz.prog 37 #[exVal x v] W (Gives (.bool (!(x.evr choQ))) W)
set_option maxRecDepth 100000 in
set_option maxHeartbeats 4000000 in
theorem chooses5_any (l : List Ex) (v : Value) (w0 : World) (h : ExsIn w0 l v) : C5Ok w0 l v := by
  induction h with
  | mk l v vs h each ih =>
  intro x hx W hB
  obtain ⟨a, cap, rfl, hncap, hcap⟩ := h.form
  obtain ⟨m, hm⟩ : ∃ m, m = l.length := ⟨_, rfl⟩
  have Hm := Lib.hid hm
  have Hrow : Hid (RowOf w0 (.slice a m cap) l.length 4 (fun b o i => ∀ x, l[i]? = some x → ExAt w0 b o x (vs i))) := by rw [hm]; exact h
  have Hih := Lib.hid (And.intro ih each)
  rw [← hm]
  rw [← hm] at hncap
  have hn62 : m ≤ 9223372036854775807 := by have : maxLen ≤ 9223372036854775807 := by decide
                                            omega
  have Hx := Lib.hid hx
  obtain ⟨W1, hW1⟩ : ∃ W1, W1 = W.alloc (.cells #[.int .i64 x.kind, .int .i64 x.n, .string x.name, .slice a m cap] 35) := ⟨_, rfl⟩
  obtain ⟨D, hD⟩ : ∃ D, D = W.heap.size := ⟨_, rfl⟩
  have hb1 : Below W.heap.size W W1 := by rw [hW1]; exact (Below.refl _ _).alloc (Nat.le_refl _) _
  have he1 : ExAt W1 D 0 x (.slice a m cap) := by rw [hW1, hD]; constructor <;> exact World.cell?_alloc_at _ _ _ _ rfl
  have q1 : D < W1.heap.size := by rw [hW1, hD]; simp
  have H1 := Lib.hid (And.intro hb1 (And.intro he1 (hB.trans (hb1.mono hB.size))))
  have HW1 := Lib.hid (And.intro hW1 hD)
  unfold exVal
  clear h ih each hm hx hb1 he1 hW1 hD hB
  go_enter Tryz.func37, Tryz.ntmps37
  go_upto_region 1 with (fail)
  rw [← HW1.out.2, ← HW1.out.1]
  obtain ⟨i0, i1, i2, i3⟩ := H1.out.2.1
  simp only [Nat.zero_add] at i0 i1 i2 i3
  have Hr0 : Hid (x.evr choQ = (choQ x && Ex.evrs choQ l)) := by show _ = _; rw [Ex.evr_eq, Hx.out]
  have Hi2 := Lib.hid i2
  by_cases h18 : x.kind = 18
  · have hq : (x.kind == 18) = true := by simp [h18]
    have Hr : Hid (x.evr choQ = false) := by show _ = _; rw [Hr0.out]; simp [choQ, h18]
    clear h18
    go_wp2_with fail
    go_ret
    exact ⟨by rw [Hr.out]; rfl, H1.out.1⟩
  have hq18 : (x.kind == 18) = false := by simp [h18]
  by_cases h19 : x.kind = 19
  · have hq : (x.kind == 19) = true := by simp [h19]
    have Hr : Hid (x.evr choQ = false) := by show _ = _; rw [Hr0.out]; simp [choQ, h19]
    clear h18 h19
    go_wp2_with fail
    go_ret
    exact ⟨by rw [Hr.out]; rfl, H1.out.1⟩
  have hq19 : (x.kind == 19) = false := by simp [h19]
  by_cases h20 : x.kind = 20
  · have hq : (x.kind == 20) = true := by simp [h20]
    have Hr : Hid (x.evr choQ = false) := by show _ = _; rw [Hr0.out]; simp [choQ, h20]
    clear h18 h19 h20
    go_wp2_with fail
    go_ret
    exact ⟨by rw [Hr.out]; rfl, H1.out.1⟩
  have hq20 : (x.kind == 20) = false := by simp [h20]
  have Hr : Hid (x.evr choQ = Ex.evrs choQ l) := by show _ = _; rw [Hr0.out]; simp [choQ, h18, h19, h20]
  clear h18 h19 h20
  go_wp2_with fail
  clear i0 i1 i2
  go_loopg [3] m (fun g iv wx => ∃ i : Nat, g = m - i ∧ iv = .int .i64 (i : Int) ∧ i ≤ m ∧ (∀ j y, j < i → l[j]? = some y → y.evr choQ = true) ∧ Below W1.heap.size W1 wx)
  case atStart => exact ⟨0, rfl, rfl, Nat.zero_le _, fun j y h => by omega, Below.refl _ _⟩
  case round =>
    obtain ⟨i, hg, rfl, hi, hn, hb⟩ := hrel
    have Hg := Lib.hid hg
    have Hn := Lib.hid (And.intro hn hb)
    have d3 := (hb.cell (p := ⟨D, 3, none⟩) q1).trans i3
    have d2 := (hb.cell (p := ⟨D, 2, none⟩) q1).trans Hi2.out
    have HBr : Hid (Below w0.heap.size w0 wr) := H1.out.2.2.trans (hb.mono H1.out.2.2.size)
    clear hg hn hb
    by_cases him : i < m
    · obtain ⟨y, hy⟩ : ∃ y, l[i]? = some y := ⟨_, List.getElem?_eq_getElem (by rw [← Hm.out]; exact him)⟩
      obtain ⟨b, off, rfl, hb, hP⟩ := Hrow.out.at (i := i) (by rw [← Hm.out]; exact him)
      have hey := (hP y hy).later HBr.out hb
      have ihy := Hih.out.1 i y hy y rfl
      obtain ⟨a', cap', hvs, -⟩ := (Hih.out.2 i y hy).form
      obtain ⟨m', hm'⟩ : ∃ m', m' = y.args.length := ⟨_, rfl⟩
      rw [hvs, ← hm'] at hey ihy
      obtain ⟨j0, j1, j2, j3⟩ := hey
      have Hy := Lib.hid hy
      have Hcall := Lib.hid (ihy wr HBr.out)
      clear hP hy ihy hvs hm' d2
      go_wp2_with fail
      refine Hcall.out.mono ?_
      rintro E w5 ⟨rfl, hb5⟩
      obtain ⟨z, hz⟩ : ∃ z, z = y.evr choQ := ⟨_, rfl⟩
      rw [← hz]
      have Hz := Lib.hid hz
      have H5 := Lib.hid (Hn.out.2.trans (hb5.mono Hn.out.2.size))
      clear hz hb5 j0 j1 j2 j3 d3 Hcall
      cases z
      · rw [show (!false) = true from rfl]; go_wp2_with fail
        go_ret
        exact ⟨by rw [Hr.out, evrs_hit Hy.out Hz.out.symm]; rfl, H1.out.1.trans (H5.out.mono H1.out.1.size)⟩
      · rw [show (!true) = false from rfl]; go_wp2_with fail
        go_roundg (m - (i + 1))
        case measure => have := Hg.out; omega
        case rel => exact ⟨i + 1, rfl, by go_num, him, fun j t hj ht => by
          by_cases e : j = i
          · subst e; rw [Hy.out] at ht; cases ht; exact Hz.out.symm
          · exact Hn.out.1 j t (by omega) ht, H5.out⟩
    · obtain rfl : m = i := by omega
      have Hall : Hid (Ex.evrs choQ l = true) := evrs_all fun j y hy => Hn.out.1 j y (by rw [Hm.out]; exact (List.getElem?_eq_some_iff.1 hy).1) hy
      go_wp2_with fail
      go_ret
      exact ⟨by rw [Hr.out, Hall.out]; rfl, H1.out.1.trans (Hn.out.2.mono H1.out.1.size)⟩
end Go.Proofs.YtgcplcffejbniaaGreat

/- R5: is a name written in some statements; is a bound a parameter that nobody writes? -/
namespace Go.Proofs.YtgcplcffejbniaaGreat
open Go.RowKit Go.Maps

mutual
/-- Is a name written by an assignment? -/
def St.wr (s : ByteArray) : St → Bool
  | .mk k nm _ _ _ body els cases => decide (k = 3 ∧ nm = s) || (St.wrs s body || (St.wrs s els || Cs.wrs s cases))
def St.wrs (s : ByteArray) : List St → Bool
  | [] => false
  | x :: l => St.wr s x || St.wrs s l
def Cs.wr (s : ByteArray) : Cs → Bool
  | .mk _ body => St.wrs s body
def Cs.wrs (s : ByteArray) : List Cs → Bool
  | [] => false
  | x :: l => Cs.wr s x || Cs.wrs s l
end
theorem St.wr_eq (s : ByteArray) (x : St) : x.wr s = (decide (x.kind = 3 ∧ x.name = s) || (St.wrs s x.body || (St.wrs s x.els || Cs.wrs s x.cases))) := by cases x; simp only [St.wr, St.kind, St.name, St.body, St.els, St.cases]; rfl
theorem Cs.wr_eq (s : ByteArray) (x : Cs) : x.wr s = St.wrs s x.body := by cases x; simp only [Cs.wr, Cs.body]
theorem St.wrs_all {s : ByteArray} {l : List St} (h : ∀ (i : Nat) y, l[i]? = some y → y.wr s = false) : St.wrs s l = false := by
  induction l with
  | nil => rfl
  | cons y l ih => simp only [St.wrs, h 0 y rfl, ih fun i z hz => h (i + 1) z (by simpa using hz)]; rfl
theorem St.wrs_hit {s : ByteArray} {l : List St} {i : Nat} {y : St} (h : l[i]? = some y) (hy : y.wr s = true) : St.wrs s l = true := by
  induction l generalizing i with
  | nil => simp at h
  | cons z l ih =>
    cases i with
    | zero => simp at h; subst h; simp [St.wrs, hy]
    | succ i => simp only [St.wrs, ih (i := i) (by simpa using h), Bool.or_true]
theorem Cs.wrs_all {s : ByteArray} {l : List Cs} (h : ∀ (i : Nat) y, l[i]? = some y → y.wr s = false) : Cs.wrs s l = false := by
  induction l with
  | nil => rfl
  | cons y l ih => simp only [Cs.wrs, h 0 y rfl, ih fun i z hz => h (i + 1) z (by simpa using hz)]; rfl
theorem Cs.wrs_hit {s : ByteArray} {l : List Cs} {i : Nat} {y : Cs} (h : l[i]? = some y) (hy : y.wr s = true) : Cs.wrs s l = true := by
  induction l generalizing i with
  | nil => simp at h
  | cons z l ih =>
    cases i with
    | zero => simp at h; subst h; simp [Cs.wrs, hy]
    | succ i => simp only [Cs.wrs, ih (i := i) (by simpa using h), Bool.or_true]
def Wr5Ok (w0 : World) (l : List St) (v : Value) : Prop := ∀ (s : ByteArray) (W : World), Below w0.heap.size w0 W → Calls Tryz.prog 59 #[v, .string s] W (Gives (.bool (St.wrs s l)) W)
set_option maxRecDepth 100000 in
set_option maxHeartbeats 4000000 in
theorem writes5_any (l : List St) (v : Value) (w0 : World) (h : StsIn w0 l v) : Wr5Ok w0 l v := by
  induction h with
  | mk l v va vb vd ve vc vk h ha hb hd he hc hk ihd ihe ihk =>
  intro s W hB
  obtain ⟨a, cap, rfl, hncap, hcap⟩ := h.form
  obtain ⟨n, hn⟩ : ∃ n, n = l.length := ⟨_, rfl⟩
  have Hn := Lib.hid hn
  have Hrow : Hid (RowOf w0 (.slice a n cap) l.length 14 (fun b o i => ∀ x, l[i]? = some x → StAt w0 b o x (va i) (vb i) (vd i) (ve i) (vc i))) := by rw [hn]; exact h
  have Hih := Lib.hid (And.intro ihd (And.intro ihe ihk))
  have Hf := Lib.hid (And.intro ha (And.intro hb (And.intro hd (And.intro he (And.intro hc hk)))))
  rw [← hn]
  rw [← hn] at hncap
  have hn62 : n ≤ 9223372036854775807 := by have : maxLen ≤ 9223372036854775807 := by decide
                                            omega
  have HB := Lib.hid hB
  clear h ha hb hd he hc hk ihd ihe ihk hn hB
  go_enter Tryz.func59, Tryz.ntmps59
  go_wp2_with fail
  go_loopg [5] n (fun g iv wx => ∃ i : Nat, g = n - i ∧ iv = .int .i64 (i : Int) ∧ i ≤ n ∧ (∀ j y, j < i → l[j]? = some y → y.wr s = false) ∧ Below W.heap.size W wx)
  case atStart => exact ⟨0, rfl, rfl, Nat.zero_le _, fun j y h => by omega, Below.refl _ _⟩
  case round =>
    obtain ⟨i, hg, rfl, hi, hp, hb⟩ := hrel
    have Hg := Lib.hid hg
    have Hi := Lib.hid (And.intro hp hb)
    have HBi : Hid (Below w0.heap.size w0 wr) := HB.out.trans (hb.mono HB.out.size)
    clear hg hp hb
    by_cases hin : i < n
    · obtain ⟨x, hx⟩ : ∃ x, l[i]? = some x := ⟨_, List.getElem?_eq_getElem (by rw [← Hn.out]; exact hin)⟩
      obtain ⟨b, off, rfl, hb, hP⟩ := Hrow.out.at (i := i) (by rw [← Hn.out]; exact hin)
      have hst := (hP x hx).later HBi.out hb
      obtain ⟨fa, fb, fd, fe, fc, fk⟩ := Hf.out
      obtain ⟨aa, ca, hva, -⟩ := (fa i x hx).form
      obtain ⟨ab, cb, hvb, -⟩ := (fb i x hx).form
      obtain ⟨ad, cd, hvd, -⟩ := (fd i x hx).form
      obtain ⟨ae, ce, hve, -⟩ := (fe i x hx).form
      obtain ⟨ac, cc, hvc, hcc1, hcc2⟩ := (fc i x hx).form
      obtain ⟨na, hna⟩ : ∃ n, n = x.a.args.length := ⟨_, rfl⟩
      obtain ⟨nb, hnb⟩ : ∃ n, n = x.b.args.length := ⟨_, rfl⟩
      obtain ⟨nd, hnd⟩ : ∃ n, n = x.body.length := ⟨_, rfl⟩
      obtain ⟨ne, hne⟩ : ∃ n, n = x.els.length := ⟨_, rfl⟩
      obtain ⟨nc, hnc⟩ : ∃ n, n = x.cases.length := ⟨_, rfl⟩
      have fd' : Wr5Ok w0 x.body (vd i) := Hih.out.1 i x hx
      have fe' : Wr5Ok w0 x.els (ve i) := Hih.out.2.1 i x hx
      have fc' := fc i x hx
      have fk' : ∀ (j : Nat) y, x.cases[j]? = some y → StsIn w0 y.body (vk i j) ∧ Wr5Ok w0 y.body (vk i j) := fun j y hy => ⟨fk i x j y hx hy, Hih.out.2.2 i x j y hx hy⟩
      rw [hva, ← hna, hvb, ← hnb, hvd, ← hnd, hve, ← hne, hvc, ← hnc] at hst
      rw [hvd, ← hnd] at fd'
      rw [hve, ← hne] at fe'
      rw [hvc, ← hnc] at fc'
      rw [← hnc] at hcc1
      have hnc62 : nc ≤ 9223372036854775807 := by have : maxLen ≤ 9223372036854775807 := by decide
                                                  omega
      have Hx := Lib.hid (And.intro hx (And.intro fd' (And.intro fe' (And.intro fc' fk'))))
      have Hnc := Lib.hid hnc
      clear hx hP fa fb fd fe fc fk hva hvb hvd hve hvc hna hnb hnd hne hnc fd' fe' fc' fk' hcc1 hcc2
      obtain ⟨W1, hW1⟩ : ∃ W1, W1 = wr.alloc (.cells #[.int .i64 x.kind, .string x.name, .int .i64 x.n, .int .i64 x.a.kind, .int .i64 x.a.n, .string x.a.name, .slice aa na ca, .int .i64 x.b.kind, .int .i64 x.b.n, .string x.b.name, .slice ab nb cb, .slice ad nd cd, .slice ae ne ce, .slice ac nc cc] 43) := ⟨_, rfl⟩
      obtain ⟨X, hX⟩ : ∃ D, D = wr.heap.size := ⟨_, rfl⟩
      have hb1 : Below wr.heap.size wr W1 := by rw [hW1]; exact (Below.refl _ _).alloc (Nat.le_refl _) _
      have hv1 : StAt W1 X 0 x (.slice aa na ca) (.slice ab nb cb) (.slice ad nd cd) (.slice ae ne ce) (.slice ac nc cc) := by rw [hW1, hX]; exact StAt.box _ _ _ _ _ _ _ _
      have qX : X < W1.heap.size := block_lt_of_cell hv1.c0
      have H1 := Lib.hid (And.intro hb1 hv1)
      have HW1 := Lib.hid (And.intro hW1 hX)
      have HB1 : Hid (Below w0.heap.size w0 W1) := HBi.out.trans (hb1.mono HBi.out.size)
      have Hall : Hid (Below W.heap.size W W1) := Hi.out.2.trans (hb1.mono Hi.out.2.size)
      have Hwr : Hid (x.wr s = (decide (x.kind = 3 ∧ x.name = s) || (St.wrs s x.body || (St.wrs s x.els || Cs.wrs s x.cases)))) := St.wr_eq s x
      obtain ⟨j0, j1, j2, j3, j4, j5, j6, j7, j8, j9, j10, j11, j12, j13⟩ := hst
      clear hb1 hv1 hW1 hX
      go_upto_region 5 with (fail)
      rw [← HW1.out.2, ← HW1.out.1]
      clear j0 j1 j2 j3 j4 j5 j6 j7 j8 j9 j10 j11 j12 j13
      obtain ⟨i0, i1, i2, i3, i4, i5, i6, i7, i8, i9, i10, i11, i12, i13⟩ := H1.out.2
      simp only [Nat.zero_add] at i1 i11 i12 i13
      clear i2 i3 i4 i5 i6 i7 i8 i9 i10
      by_cases hks : x.kind = 3 ∧ x.name = s
      · have hq : (x.kind == 3) = true := by simp [hks.1]
        have hq2 : (x.name.toList == s.toList) = true := by rw [bytes_beq]; exact decide_eq_true hks.2
        have Hres : Hid (St.wrs s l = true) := St.wrs_hit Hx.out.1 (by rw [Hwr.out, decide_eq_true hks]; rfl)
        clear hks
        go_wp2_with fail
        go_ret
        exact ⟨by rw [Hres.out]; rfl, Hall.out⟩
      have Hw2 : Hid (x.wr s = (St.wrs s x.body || (St.wrs s x.els || Cs.wrs s x.cases))) := by show _ = _; rw [Hwr.out, decide_eq_false hks]; rfl
      have hor : (x.kind == 3) = true ∧ (x.name.toList == s.toList) = false ∨ (x.kind == 3) = false := by
        by_cases h3 : x.kind = 3
        · exact .inl ⟨by simp [h3], by rw [bytes_beq]; exact decide_eq_false fun h => hks ⟨h3, h⟩⟩
        · exact .inr (by simp [h3])
      have Hcall := Lib.hid (Hx.out.2.1 s W1 HB1.out)
      clear hks Hwr
      rcases hor with ⟨hq, hq2⟩ | hq
      all_goals
        go_wp2_with fail
        refine Hcall.out.mono ?_
        rintro E w2 ⟨rfl, hb2⟩
        obtain ⟨zd, hzd⟩ : ∃ z, z = St.wrs s x.body := ⟨_, rfl⟩
        rw [← hzd]
        rw [← hzd] at Hw2
        have Hzd := Lib.hid hzd
        have k12 := (hb2.cell (p := ⟨X, 12, none⟩) qX).trans i12
        have k13 := (hb2.cell (p := ⟨X, 13, none⟩) qX).trans i13
        have H2 := Lib.hid hb2
        have q2 : X < w2.heap.size := Nat.lt_of_lt_of_le qX hb2.size
        clear hzd hb2 i0 i1 i11 i12 i13 Hcall
        cases zd
        case true =>
          have Hres : Hid (St.wrs s l = true) := St.wrs_hit Hx.out.1 (by rw [Hw2.out]; rfl)
          go_wp2_with fail
          go_ret
          exact ⟨by rw [Hres.out]; rfl, Hall.out.trans (H2.out.mono Hall.out.size)⟩
        have Hw3 : Hid (x.wr s = (St.wrs s x.els || Cs.wrs s x.cases)) := by show _ = _; rw [Hw2.out]; rfl
        have Hcall := Lib.hid (Hx.out.2.2.1 s w2 (HB1.out.trans (H2.out.mono HB1.out.size)))
        go_wp2_with fail
        refine Hcall.out.mono ?_
        rintro E w3 ⟨rfl, hb3⟩
        obtain ⟨ze, hze⟩ : ∃ z, z = St.wrs s x.els := ⟨_, rfl⟩
        rw [← hze]
        rw [← hze] at Hw3
        have Hze := Lib.hid hze
        have l13 := (hb3.cell (p := ⟨X, 13, none⟩) q2).trans k13
        have H3 := Lib.hid (H2.out.trans (hb3.mono H2.out.size))
        have q3 : X < w3.heap.size := Nat.lt_of_lt_of_le q2 hb3.size
        clear hze hb3 k12 k13 Hcall
        cases ze
        case true =>
          have Hres : Hid (St.wrs s l = true) := St.wrs_hit Hx.out.1 (by rw [Hw3.out]; rfl)
          go_wp2_with fail
          go_ret
          exact ⟨by rw [Hres.out]; rfl, Hall.out.trans (H3.out.mono Hall.out.size)⟩
        have Hw4 : Hid (x.wr s = Cs.wrs s x.cases) := by show _ = _; rw [Hw3.out]; rfl
        have Hl13 := Lib.hid l13
        go_wp2_with fail
        clear l13
        go_loopg [7] nc (fun g iv wx => ∃ j : Nat, g = nc - j ∧ iv = .int .i64 (j : Int) ∧ j ≤ nc ∧ (∀ k y, k < j → x.cases[k]? = some y → y.wr s = false) ∧ Below w3.heap.size w3 wx)
        case atStart => exact ⟨0, rfl, rfl, Nat.zero_le _, fun j y h => by omega, Below.refl _ _⟩
        case round =>
          obtain ⟨j, hgj, rfl, hj, hpj, hbj⟩ := hrel
          have Hgj := Lib.hid hgj
          have Hj := Lib.hid (And.intro hpj hbj)
          have HB4 : Hid (Below w0.heap.size w0 wr) := HB1.out.trans ((H3.out.trans (hbj.mono H3.out.size)).mono HB1.out.size)
          have HA4 : Hid (Below W.heap.size W wr) := Hall.out.trans ((H3.out.trans (hbj.mono H3.out.size)).mono Hall.out.size)
          have d13 := (hbj.cell (p := ⟨X, 13, none⟩) q3).trans Hl13.out
          clear hgj hpj hbj
          by_cases hjn : j < nc
          · obtain ⟨y, hy⟩ : ∃ y, x.cases[j]? = some y := ⟨_, List.getElem?_eq_getElem (by rw [← Hnc.out]; exact hjn)⟩
            obtain ⟨bx, ox, rfl, hbx, hPc⟩ := Hx.out.2.2.2.1.at (i := j) hjn
            obtain ⟨j0, j1⟩ := (hPc y hy).later HB4.out hbx
            obtain ⟨hsb, hib⟩ := Hx.out.2.2.2.2 j y hy
            obtain ⟨ay, cy, hvy, -⟩ := hsb.form
            obtain ⟨ny, hny⟩ : ∃ n, n = y.body.length := ⟨_, rfl⟩
            rw [hvy, ← hny] at j1 hib
            have Hcall := Lib.hid (hib s wr HB4.out)
            have HY := Lib.hid hy
            clear hPc hy hsb hib hvy hny
            go_wp2_with fail
            refine Hcall.out.mono ?_
            rintro E w5 ⟨rfl, hb5⟩
            obtain ⟨z, hz⟩ : ∃ z, z = St.wrs s y.body := ⟨_, rfl⟩
            rw [← hz]
            have Hz := Lib.hid hz
            have H5 := Lib.hid (Hj.out.2.trans (hb5.mono Hj.out.2.size))
            have H5w := Lib.hid (HA4.out.trans (hb5.mono HA4.out.size))
            clear hz hb5 j0 j1 d13 Hcall
            cases z
            · go_wp2_with fail
              go_roundg (nc - (j + 1))
              case measure => have := Hgj.out; omega
              case rel => exact ⟨j + 1, rfl, by go_num, hjn, fun k t hk ht => by
                by_cases e : k = j
                · subst e; rw [HY.out] at ht; cases ht; rw [Cs.wr_eq]; exact Hz.out.symm
                · exact Hj.out.1 k t (by omega) ht, H5.out⟩
            · have Hres : Hid (St.wrs s l = true) := St.wrs_hit Hx.out.1 (by rw [Hw4.out]; exact Cs.wrs_hit HY.out (by rw [Cs.wr_eq]; exact Hz.out.symm))
              go_wp2_with fail
              go_ret
              exact ⟨by rw [Hres.out]; rfl, H5w.out⟩
          · obtain rfl : nc = j := by omega
            have Hno : Hid (x.wr s = false) := by
              show _ = _
              rw [Hw4.out]
              exact Cs.wrs_all fun k y hy => Hj.out.1 k y (by rw [Hnc.out]; exact (List.getElem?_eq_some_iff.1 hy).1) hy
            go_wp2_with fail
            go_roundg (n - (i + 1))
            case measure => have := Hg.out; omega
            case rel => exact ⟨i + 1, rfl, by go_num, hin, fun k t hk ht => by
              by_cases e : k = i
              · subst e; rw [Hx.out.1] at ht; cases ht; exact Hno.out
              · exact Hi.out.1 k t (by omega) ht, HA4.out⟩
    · obtain rfl : n = i := by omega
      have Hres : Hid (St.wrs s l = false) := St.wrs_all fun k y hy => Hi.out.1 k y (by rw [Hn.out]; exact (List.getElem?_eq_some_iff.1 hy).1) hy
      go_wp2_with fail
      go_ret
      exact ⟨by rw [Hres.out]; rfl, Hi.out.2⟩
/-- Is an expression the name of a parameter that nobody writes? -/
def upper5B (f : Fn) (x : Ex) : Bool := decide (x.kind = 2) && (!(St.wrs x.name f.body) && f.params.any (fun y => decide (y.name = x.name)))
set_option maxRecDepth 100000 in
set_option maxHeartbeats 4000000 in
theorem upper5_any (f : Fn) (vp vb : Value) (x : Ex) (a : Option Addr) (cap : Nat) (w0 W : World) (hfp : RowOf w0 vp f.params.length 3 (fun b o k => ∀ y, f.params[k]? = some y → PmAt w0 b o y)) (hfb : StsIn w0 f.body vb) (hB : Below w0.heap.size w0 W) :
    Calls Tryz.prog 39 #[fnVal f vp vb, exVal x (.slice a x.args.length cap)] W (Gives (.bool (upper5B f x)) W) := by
  obtain ⟨ap, cp, rfl, hpc1, hpc2⟩ := hfp.form
  obtain ⟨ab, cb, rfl, -⟩ := hfb.form
  obtain ⟨m, hm⟩ : ∃ n, n = x.args.length := ⟨_, rfl⟩
  obtain ⟨np, hnp⟩ : ∃ n, n = f.params.length := ⟨_, rfl⟩
  obtain ⟨nb, hnb⟩ : ∃ n, n = f.body.length := ⟨_, rfl⟩
  have Hrp : Hid (RowOf w0 (.slice ap np cp) f.params.length 3 (fun b o k => ∀ y, f.params[k]? = some y → PmAt w0 b o y)) := by rw [hnp]; exact hfp
  rw [← hm, ← hnp, ← hnb]
  have hcall := writes5_any f.body _ w0 hfb
  rw [← hnb] at hcall
  rw [← hnp] at hpc1
  have hnp8 : np ≤ 9223372036854775807 := by have : maxLen ≤ 9223372036854775807 := by decide
                                             omega
  have Hnp := Lib.hid hnp
  obtain ⟨W1, hW1⟩ : ∃ W1, W1 = (W.alloc (.cells #[.string f.name, .slice ap np cp, .slice ab nb cb] 45)).alloc (.cells #[.int .i64 x.kind, .int .i64 x.n, .string x.name, .slice a m cap] 35) := ⟨_, rfl⟩
  obtain ⟨D, hD⟩ : ∃ D, D = W.heap.size := ⟨_, rfl⟩
  have hb1 : Below W.heap.size W W1 := by rw [hW1]; exact ((Below.refl _ _).alloc (Nat.le_refl _) _).alloc (by (try simp only [World.size_alloc]); (try simp only [size_set]); omega) _
  have q1 : (W.alloc (.cells #[.string f.name, .slice ap np cp, .slice ab nb cb] 45)).heap.size = D + 1 := by rw [hD]; simp
  have hfc : FnCells W1 D 0 f (.slice ap np cp) (.slice ab nb cb) := by
    have k : FnCells (W.alloc (.cells #[.string f.name, .slice ap np cp, .slice ab nb cb] 45)) D 0 f (.slice ap np cp) (.slice ab nb cb) := by rw [hD]; constructor <;> exact World.cell?_alloc_at _ _ _ _ rfl
    rw [hW1]
    exact k.later ((Below.refl _ _).alloc (Nat.le_refl _) _) (by omega)
  have hex : ExAt W1 (D + 1) 0 x (.slice a m cap) := by rw [hW1, ← q1]; exact ExAt.boxed _ _ _ _
  have H1 := Lib.hid (And.intro hb1 (And.intro hfc hex))
  have HW1 := Lib.hid (And.intro hW1 hD)
  have HB1 : Hid (Below w0.heap.size w0 W1) := hB.trans (hb1.mono hB.size)
  have Hcall := Lib.hid (hcall x.name W1 HB1.out)
  obtain ⟨r, hr⟩ : ∃ r, r = upper5B f x := ⟨_, rfl⟩
  obtain ⟨kk, hkk⟩ : ∃ kk, kk = x.kind := ⟨_, rfl⟩
  obtain ⟨o, ho⟩ : ∃ o, o = St.wrs x.name f.body := ⟨_, rfl⟩
  have Hr : Hid (r = (decide (kk = 2) && (!o && f.params.any (fun y => decide (y.name = x.name))))) := by show _ = _; rw [hr, hkk, ho]; rfl
  rw [← hr]
  rw [← ho] at Hcall
  obtain ⟨k0, k1, k2, k3⟩ := hex
  simp only [Nat.zero_add] at k1 k2 k3
  rw [← hkk] at k0
  have i1 := hfc.c1
  have i2 := hfc.c2
  simp only [Nat.zero_add] at i1 i2
  unfold fnVal exVal
  have hz1 : D + 2 ≤ W1.heap.size ∧ W1.heap.size ≤ D + 2 := by rw [hW1]; simp; omega
  have HI := Lib.hid (And.intro i1 k2)
  clear hfp hfb hcall hm hnp hnb hpc1 hpc2 hB hW1 hD hb1 hfc hr hkk ho q1
  go_enter Tryz.func39, Tryz.ntmps39
  go_upto_region 1 with (fail)
  rw [← HW1.out.1, ← HW1.out.2]
  by_cases h2 : kk = 2
  · subst h2
    have Hr2 : Hid (r = (!o && f.params.any (fun y => decide (y.name = x.name)))) := by show _ = _; rw [Hr.out]; rfl
    clear Hr k1 k3
    go_wp2_with fail
    refine Hcall.out.mono ?_
    rintro e w2 ⟨rfl, hb2⟩
    have H2 := Lib.hid hb2
    have q2 := hb2.size
    have m1 := (hb2.cell (p := ⟨D, 1, none⟩) (by show D < _; omega)).trans HI.out.1
    clear hb2 i1 i2 k0 k2 Hcall
    cases o
    · have Hr3 : Hid (r = f.params.any (fun y => decide (y.name = x.name))) := by show _ = _; rw [Hr2.out]; rfl
      go_wp2_with fail
      clear m1
      go_loopg [5] np (fun g jv wx => ∃ j : Nat, g = np - j ∧ jv = .int .i64 (j : Int) ∧ j ≤ np ∧ (f.params.take j).any (fun y => decide (y.name = x.name)) = false ∧ Below w2.heap.size w2 wx)
      case atStart => exact ⟨0, rfl, rfl, Nat.zero_le _, rfl, Below.refl _ _⟩
      case round =>
        obtain ⟨j, hg, rfl, hj, hp, hb⟩ := hrel
        have HK := Lib.hid (And.intro hp hb)
        have Hg := Lib.hid hg
        have m1 := ((H2.out.trans (hb.mono H2.out.size)).cell (p := ⟨D, 1, none⟩) (by show D < _; omega)).trans HI.out.1
        have m2 := ((H2.out.trans (hb.mono H2.out.size)).cell (p := ⟨D + 1, 2, none⟩) (by show D + 1 < _; omega)).trans HI.out.2
        have HA : Hid (Below W.heap.size W wr) := H1.out.1.trans ((H2.out.trans (hb.mono H2.out.size)).mono H1.out.1.size)
        have HB3 : Hid (Below w0.heap.size w0 wr) := HB1.out.trans ((H2.out.trans (hb.mono H2.out.size)).mono HB1.out.size)
        clear hp hg hb
        by_cases hjn : j < np
        · obtain ⟨y, hy⟩ : ∃ y, f.params[j]? = some y := ⟨_, List.getElem?_eq_getElem (by rw [← Hnp.out]; exact hjn)⟩
          obtain ⟨by_, oy, rfl, hby, hPy⟩ := Hrp.out.at (i := j) (by rw [← Hnp.out]; exact hjn)
          obtain ⟨p0, p1, p2⟩ := (hPy y hy).later HB3.out hby
          have Hany : Hid ((f.params.take (j + 1)).any (fun y => decide (y.name = x.name)) = (y.name.toList == x.name.toList)) := by
            show _ = _
            rw [take_next hy, List.any_append, HK.out.1, bytes_beq]; simp
          have Hhit : Hid ((y.name.toList == x.name.toList) = true → f.params.any (fun y => decide (y.name = x.name)) = true) := fun h => by
            rw [List.any_eq_true]
            exact ⟨y, List.mem_of_getElem? hy, by rw [bytes_beq] at h; exact h⟩
          have hjn2 : (j : Int) < (np : Int) := by omega
          have hd1 : decide ((j : Int) < (np : Int)) = true := decide_eq_true hjn2
          have hd2 : decide (j < np) = true := decide_eq_true hjn
          obtain ⟨z, hz⟩ : ∃ z, z = (y.name.toList == x.name.toList) := ⟨_, rfl⟩
          rw [← hz] at Hany Hhit
          have Hz := Lib.hid hz
          clear hy hPy
          cases z
          · have hq : (y.name.toList == x.name.toList) = false := hz.symm
            clear hz
            go_wp2_with (go_quiet (fail))
            go_roundg (np - (j + 1))
            case measure => have := Hg.out; omega
            case rel => exact ⟨j + 1, rfl, by go_num, hjn, Hany.out, below_drewN HK.out.2 _⟩
          · have hq : (y.name.toList == x.name.toList) = true := hz.symm
            have Hro : Hid (r = true) := by show _ = _; rw [Hr3.out, Hhit.out rfl]
            clear hz
            go_wp2_with (go_quiet (fail))
            go_ret
            exact ⟨by rw [Hro.out]; try rfl, below_drewN HA.out _⟩
        · obtain rfl : np = j := by omega
          have Hres : Hid (r = false) := by
            show _ = _
            have h := HK.out.1
            rw [List.take_of_length_le (by rw [← Hnp.out]; exact Nat.le_refl _)] at h
            rw [Hr3.out, h]
          clear hjn
          go_wp2_with fail
          go_ret
          exact ⟨by rw [Hres.out]; try rfl, HA.out⟩
    · have Hr3 : Hid (r = false) := by show _ = _; rw [Hr2.out]; rfl
      go_wp2_with fail
      go_ret
      exact ⟨by rw [Hr3.out]; try rfl, H1.out.1.trans (H2.out.mono H1.out.1.size)⟩
  · have hq : (kk != 2) = true := by simp [h2]
    have Hr2 : Hid (r = false) := by show _ = _; rw [Hr.out]; simp [h2]
    clear Hr h2
    go_wp2_with fail
    go_ret
    exact ⟨by rw [Hr2.out]; try rfl, H1.out.1⟩
end Go.Proofs.YtgcplcffejbniaaGreat

/- R5: do statements go straight on? -/
namespace Go.Proofs.YtgcplcffejbniaaGreat
open Go.RowKit Go.Maps

/-- A statement that does not go straight on by itself. -/
def St.bad5 (loop : Bool) (x : St) : Bool := decide (x.kind = 5 ∨ x.kind = 6 ∨ x.kind = 8 ∨ x.kind = 9 ∧ loop = true) || (!(x.a.evr choQ) || !(x.b.evr choQ))
/-- The bounds of a loop. -/
def St.bnd5 (f : Fn) (params : Bool) (x : St) : Bool := x.a.evr plainQ && (x.b.evr plainQ || (params && upper5B f x.b))
mutual
/-- Does a statement go straight on? -/
def St.gof (f : Fn) (params loop : Bool) : St → Bool
  | .mk k nm num a b body els cases => !(St.bad5 loop (.mk k nm num a b body els cases)) && (decide (k ≠ 7) || (St.bnd5 f params (.mk k nm num a b body els cases) && St.gofs f params true body))
def St.gofs (f : Fn) (params loop : Bool) : List St → Bool
  | [] => true
  | x :: l => St.gof f params loop x && St.gofs f params loop l
end
theorem St.gof_eq (f : Fn) (params loop : Bool) (x : St) : x.gof f params loop = (!(x.bad5 loop) && (decide (x.kind ≠ 7) || (x.bnd5 f params && St.gofs f params true x.body))) := by cases x; simp only [St.gof, St.kind, St.body]; rfl
theorem St.gofs_all {f : Fn} {params loop : Bool} {l : List St} (h : ∀ (i : Nat) y, l[i]? = some y → y.gof f params loop = true) : St.gofs f params loop l = true := by
  induction l with
  | nil => rfl
  | cons y l ih => simp only [St.gofs, h 0 y rfl, ih fun i z hz => h (i + 1) z (by simpa using hz)]; rfl
theorem St.gofs_hit {f : Fn} {params loop : Bool} {l : List St} {i : Nat} {y : St} (h : l[i]? = some y) (hy : y.gof f params loop = false) : St.gofs f params loop l = false := by
  induction l generalizing i with
  | nil => simp at h
  | cons z l ih =>
    cases i with
    | zero => simp at h; subst h; simp [St.gofs, hy]
    | succ i => simp only [St.gofs, ih (i := i) (by simpa using h), Bool.and_false]
def G5Ok (w0 : World) (f : Fn) (vp vb : Value) (l : List St) (v : Value) : Prop := ∀ (params loop : Bool) (W : World), Below w0.heap.size w0 W → Calls Tryz.prog 20 #[fnVal f vp vb, v, .bool params, .bool loop] W (Gives (.bool (St.gofs f params loop l)) W)
set_option maxRecDepth 100000 in
set_option maxHeartbeats 8000000 in
theorem straight5_any (f : Fn) (vp vb0 : Value) (l : List St) (v : Value) (w0 : World) (hfp : RowOf w0 vp f.params.length 3 (fun b o k => ∀ y, f.params[k]? = some y → PmAt w0 b o y)) (hfb : StsIn w0 f.body vb0) (h : StsIn w0 l v) : G5Ok w0 f vp vb0 l v := by
  induction h with
  | mk l v va vb vd ve vc vk h ha hb hd he hc hk ihd ihe ihk =>
  intro params loop W hB
  obtain ⟨ap, cp, hvp, hpc1, hpc2⟩ := hfp.form
  obtain ⟨a0, c0, hvb0, -⟩ := hfb.form
  have hupper := fun (x : Ex) (a : Option Addr) (cap : Nat) (W : World) (hB : Below w0.heap.size w0 W) => upper5_any f vp vb0 x a cap w0 W hfp hfb hB
  obtain ⟨np, hnp⟩ : ∃ n, n = f.params.length := ⟨_, rfl⟩
  obtain ⟨n0, hn0⟩ : ∃ n, n = f.body.length := ⟨_, rfl⟩
  rw [← hnp] at hvp
  rw [← hn0] at hvb0
  obtain ⟨a, cap, rfl, hncap, hcap⟩ := h.form
  obtain ⟨n, hn⟩ : ∃ n, n = l.length := ⟨_, rfl⟩
  have Hn := Lib.hid hn
  have Hrow : Hid (RowOf w0 (.slice a n cap) l.length 14 (fun b o i => ∀ x, l[i]? = some x → StAt w0 b o x (va i) (vb i) (vd i) (ve i) (vc i))) := by rw [hn]; exact h
  have Hf := Lib.hid (And.intro ha (And.intro hb hd))
  have Hfe := Lib.hid (And.intro he hc)
  have Hih := Lib.hid ihd
  have Hup := Lib.hid hupper
  rw [← hn]
  rw [← hn] at hncap
  have hn62 : n ≤ 9223372036854775807 := by have : maxLen ≤ 9223372036854775807 := by decide
                                            omega
  subst hvp
  subst hvb0
  obtain ⟨W1, hW1⟩ : ∃ W1, W1 = W.alloc (.cells #[.string f.name, .slice ap np cp, .slice a0 n0 c0] 45) := ⟨_, rfl⟩
  obtain ⟨D, hD⟩ : ∃ D, D = W.heap.size := ⟨_, rfl⟩
  have hb1 : Below W.heap.size W W1 := by rw [hW1]; exact (Below.refl _ _).alloc (Nat.le_refl _) _
  have d0 : W1.cell? ⟨D, 0, none⟩ = some (.string f.name) := by rw [hW1, hD]; exact World.cell?_alloc_at _ _ _ _ rfl
  have d1 : W1.cell? ⟨D, 1, none⟩ = some (.slice ap np cp) := by rw [hW1, hD]; exact World.cell?_alloc_at _ _ _ _ rfl
  have d2 : W1.cell? ⟨D, 2, none⟩ = some (.slice a0 n0 c0) := by rw [hW1, hD]; exact World.cell?_alloc_at _ _ _ _ rfl
  have qD : D < W1.heap.size := block_lt_of_cell d0
  have HD := Lib.hid (And.intro d0 (And.intro d1 d2))
  have HB1 : Hid (Below w0.heap.size w0 W1) := hB.trans (hb1.mono hB.size)
  have Hb1 := Lib.hid hb1
  have HW1 := Lib.hid (And.intro hW1 hD)
  unfold fnVal
  clear h ha hb hd he hc hk ihd ihe ihk hn hB hfp hfb hupper hnp hn0 hpc1 hpc2 hW1 hD hb1 d0 d1 d2
  go_enter Tryz.func20, Tryz.ntmps20
  go_upto_region 1 with (fail)
  rw [← HW1.out.2, ← HW1.out.1]
  go_wp2_with fail
  go_loopg [9] n (fun g iv wx => ∃ i : Nat, g = n - i ∧ iv = .int .i64 (i : Int) ∧ i ≤ n ∧ (∀ j y, j < i → l[j]? = some y → y.gof f params loop = true) ∧ Below W1.heap.size W1 wx)
  case atStart => exact ⟨0, rfl, rfl, Nat.zero_le _, fun j y h => by omega, Below.refl _ _⟩
  case round =>
    obtain ⟨i, hg, rfl, hi, hp, hb⟩ := hrel
    have Hg := Lib.hid hg
    have Hi := Lib.hid (And.intro hp hb)
    have HBi : Hid (Below w0.heap.size w0 wr) := HB1.out.trans (hb.mono HB1.out.size)
    have qi := hb.size
    clear hg hp hb
    by_cases hin : i < n
    · obtain ⟨x, hx⟩ : ∃ x, l[i]? = some x := ⟨_, List.getElem?_eq_getElem (by rw [← Hn.out]; exact hin)⟩
      obtain ⟨b, off, rfl, hb, hP⟩ := Hrow.out.at (i := i) (by rw [← Hn.out]; exact hin)
      have hst := (hP x hx).later HBi.out hb
      obtain ⟨fa, fb, fd⟩ := Hf.out
      obtain ⟨fe, fc⟩ := Hfe.out
      obtain ⟨aa, ca, hva, -⟩ := (fa i x hx).form
      obtain ⟨ab, cb, hvb, -⟩ := (fb i x hx).form
      obtain ⟨ad, cd, hvd, -⟩ := (fd i x hx).form
      obtain ⟨ae, ce, hve, -⟩ := (fe i x hx).form
      obtain ⟨ac, cc, hvc, -⟩ := (fc i x hx).form
      have ka : C5Ok w0 x.a.args (va i) := chooses5_any _ _ _ (fa i x hx)
      have kb5 : C5Ok w0 x.b.args (vb i) := chooses5_any _ _ _ (fb i x hx)
      have pa : P5Ok w0 x.a.args (va i) := plain5_any _ _ _ (fa i x hx)
      have pb : P5Ok w0 x.b.args (vb i) := plain5_any _ _ _ (fb i x hx)
      have fd' : G5Ok w0 f (.slice ap np cp) (.slice a0 n0 c0) x.body (vd i) := Hih.out i x hx
      have hub := Hup.out x.b
      obtain ⟨na, hna⟩ : ∃ n, n = x.a.args.length := ⟨_, rfl⟩
      obtain ⟨nb, hnb⟩ : ∃ n, n = x.b.args.length := ⟨_, rfl⟩
      obtain ⟨nd, hnd⟩ : ∃ n, n = x.body.length := ⟨_, rfl⟩
      obtain ⟨ne, hne⟩ : ∃ n, n = x.els.length := ⟨_, rfl⟩
      obtain ⟨nc, hnc⟩ : ∃ n, n = x.cases.length := ⟨_, rfl⟩
      rw [hva, ← hna, hvb, ← hnb, hvd, ← hnd, hve, ← hne, hvc, ← hnc] at hst
      rw [hva, ← hna] at ka pa
      rw [hvb, ← hnb] at kb5 pb
      rw [hvd, ← hnd] at fd'
      rw [← hnb] at hub
      have Hc := Lib.hid (And.intro (ka x.a rfl) (And.intro (kb5 x.b rfl) (And.intro (pa x.a rfl) (And.intro (pb x.b rfl) (And.intro fd' hub)))))
      have Hx := Lib.hid hx
      clear hx hP fa fb fd fe fc hva hvb hvd hve hvc hna hnb hnd hne hnc fd' ka kb5 pa pb hub
      obtain ⟨W2, hW2⟩ : ∃ W1, W1 = wr.alloc (.cells #[.int .i64 x.kind, .string x.name, .int .i64 x.n, .int .i64 x.a.kind, .int .i64 x.a.n, .string x.a.name, .slice aa na ca, .int .i64 x.b.kind, .int .i64 x.b.n, .string x.b.name, .slice ab nb cb, .slice ad nd cd, .slice ae ne ce, .slice ac nc cc] 43) := ⟨_, rfl⟩
      obtain ⟨X, hX⟩ : ∃ D, D = wr.heap.size := ⟨_, rfl⟩
      have hb2 : Below wr.heap.size wr W2 := by rw [hW2]; exact (Below.refl _ _).alloc (Nat.le_refl _) _
      have hv2 : StAt W2 X 0 x (.slice aa na ca) (.slice ab nb cb) (.slice ad nd cd) (.slice ae ne ce) (.slice ac nc cc) := by rw [hW2, hX]; exact StAt.box _ _ _ _ _ _ _ _
      have qX : X < W2.heap.size := block_lt_of_cell hv2.c0
      have qD2 : D < W2.heap.size := by have := hb2.size; omega
      have H2 := Lib.hid (And.intro (Hi.out.2.trans (hb2.mono qi)) hv2)
      have HW2 := Lib.hid (And.intro hW2 hX)
      have HB2 : Hid (Below w0.heap.size w0 W2) := HBi.out.trans (hb2.mono HBi.out.size)
      have Hgo : Hid (x.gof f params loop = (!(x.bad5 loop) && (decide (x.kind ≠ 7) || (x.bnd5 f params && St.gofs f params true x.body)))) := St.gof_eq f params loop x
      obtain ⟨j0, j1, j2, j3, j4, j5, j6, j7, j8, j9, j10, j11, j12, j13⟩ := hst
      clear hb2 hv2 hW2 hX
      go_upto_region 5 with (fail)
      rw [← HW2.out.2, ← HW2.out.1]
      clear j0 j1 j2 j3 j4 j5 j6 j7 j8 j9 j10 j11 j12 j13
      obtain ⟨i0, i1, i2, i3, i4, i5, i6, i7, i8, i9, i10, i11, i12, i13⟩ := H2.out.2
      simp only [Nat.zero_add] at i3 i4 i5 i6 i7 i8 i9 i10
      clear i1 i2 i11 i12 i13
      obtain ⟨bad, hbad⟩ : ∃ t, t = x.bad5 loop := ⟨_, rfl⟩
      have Hbad := Lib.hid hbad
      clear hbad
      have HI := Lib.hid (And.intro i7 (And.intro i8 (And.intro i9 i10)))
      go_cut [3, 51] from 21 to 51 (fun v3 b wc => v3 = .bool loop ∧ b = .bool bad ∧ Below W2.heap.size W2 wc)
      case first =>
        --<A
        by_cases h5 : x.kind = 5
        · have hq5 : (x.kind == 5) = true := by simp [h5]
          have Hr : Hid (bad = true) := by show _ = _; rw [Hbad.out]; unfold St.bad5; simp [h5]
          clear h5 i3 i4 i5 i6 i7 i8 i9 i10
          go_wp2_with fail
          go_meet
          case rel => exact ⟨rfl, by rw [Hr.out], Below.refl _ _⟩
        have hq5 : (x.kind == 5) = false := by simp [h5]
        by_cases h6 : x.kind = 6
        · have hq6 : (x.kind == 6) = true := by simp [h6]
          have Hr : Hid (bad = true) := by show _ = _; rw [Hbad.out]; unfold St.bad5; simp [h6]
          clear h5 h6 i3 i4 i5 i6 i7 i8 i9 i10
          go_wp2_with fail
          go_meet
          case rel => exact ⟨rfl, by rw [Hr.out], Below.refl _ _⟩
        have hq6 : (x.kind == 6) = false := by simp [h6]
        by_cases h8 : x.kind = 8
        · have hq8 : (x.kind == 8) = true := by simp [h8]
          have Hr : Hid (bad = true) := by show _ = _; rw [Hbad.out]; unfold St.bad5; simp [h8]
          clear h5 h6 h8 i3 i4 i5 i6 i7 i8 i9 i10
          go_wp2_with fail
          go_meet
          case rel => exact ⟨rfl, by rw [Hr.out], Below.refl _ _⟩
        have hq8 : (x.kind == 8) = false := by simp [h8]
        by_cases h9 : x.kind = 9 ∧ loop = true
        · have hq9 : (x.kind == 9) = true := by simp [h9.1]
          have hlp := h9.2
          have Hr : Hid (bad = true) := by show _ = _; rw [Hbad.out]; unfold St.bad5; simp [h9.1, h9.2]
          clear h5 h6 h8 h9 i3 i4 i5 i6 i7 i8 i9 i10
          go_wp2_with fail
          go_meet
          case rel => exact ⟨by rw [hlp], by rw [Hr.out], Below.refl _ _⟩
        have Hbd2 : Hid (bad = (!(x.a.evr choQ) || !(x.b.evr choQ))) := by
          show _ = _
          rw [Hbad.out]; unfold St.bad5
          rw [decide_eq_false (by rintro (h | h | h | h); exact h5 h; exact h6 h; exact h8 h; exact h9 h)]; rfl
        have hor : (x.kind == 9) = false ∨ (x.kind == 9) = true ∧ loop = false := by
          by_cases h : x.kind = 9
          · refine .inr ⟨by simp [h], ?_⟩
            cases loop
            · rfl
            · exact absurd ⟨h, rfl⟩ h9
          · exact .inl (by simp [h])
        have Hca := Lib.hid (Hc.out.1 W2 HB2.out)
        clear h5 h6 h8 h9
        rcases hor with hq9 | ⟨hq9, hlp⟩
        all_goals
          go_wp2_with fail
          refine Hca.out.mono ?_
          rintro E w3 ⟨rfl, hb3⟩
          obtain ⟨za, hza⟩ : ∃ z, z = x.a.evr choQ := ⟨_, rfl⟩
          rw [← hza]
          rw [← hza] at Hbd2
          have k7 := (hb3.cell (p := ⟨X, 7, none⟩) qX).trans i7
          have k8 := (hb3.cell (p := ⟨X, 8, none⟩) qX).trans i8
          have k9 := (hb3.cell (p := ⟨X, 9, none⟩) qX).trans i9
          have k10 := (hb3.cell (p := ⟨X, 10, none⟩) qX).trans i10
          have H3 := Lib.hid hb3
          clear hza hb3 i0 i3 i4 i5 i6 i7 i8 i9 i10
          cases za
          · have Hr : Hid (bad = true) := by show _ = _; rw [Hbd2.out]; rfl
            rw [show (!false) = true from rfl]
            go_wp2_with fail
            go_meet
            case rel => exact ⟨by first | rfl | rw [hlp], by rw [Hr.out], H3.out⟩
          · rw [show (!true) = false from rfl]
            have Hcb := Lib.hid (Hc.out.2.1 w3 (HB2.out.trans (H3.out.mono HB2.out.size)))
            go_wp2_with fail
            refine Hcb.out.mono ?_
            rintro E w4 ⟨rfl, hb4⟩
            have Hr : Hid (bad = !(x.b.evr choQ)) := by show _ = _; rw [Hbd2.out]; rfl
            obtain ⟨zb, hzb⟩ : ∃ z, z = !(x.b.evr choQ) := ⟨_, rfl⟩
            rw [← hzb]
            rw [← hzb] at Hr
            have H4 := Lib.hid (H3.out.trans (hb4.mono H3.out.size))
            clear hzb hb4 k7 k8 k9 k10
            go_wp2_with fail
            go_meet
            case rel => exact ⟨by first | rfl | rw [hlp], by rw [Hr.out], H4.out⟩
        --A>
      case rest =>
        obtain ⟨rfl, rfl, hb3⟩ := hcut
        obtain ⟨V, hV⟩ : ∃ V : World, V = wc := ⟨_, rfl⟩
        subst hV
        have H3 := Lib.hid hb3
        have HB3 : Hid (Below w0.heap.size w0 V) := HB2.out.trans (hb3.mono HB2.out.size)
        have HA3 : Hid (Below W1.heap.size W1 V) := H2.out.1.trans (hb3.mono H2.out.1.size)
        have k0 := (hb3.cell (p := ⟨X, 0, none⟩) qX).trans i0
        have q3 := hb3.size
        have Hnext : Hid (∀ wz, x.gof f params loop = true → Below W1.heap.size W1 wz → ∃ i' : Nat, n - (i + 1) = n - i' ∧ Value.int .i64 (((i + 1 : Nat) : Int)) = .int .i64 (i' : Int) ∧ i' ≤ n ∧ (∀ j y, j < i' → l[j]? = some y → y.gof f params loop = true) ∧ Below W1.heap.size W1 wz) := fun wz hz hbz => ⟨i + 1, rfl, rfl, hin, fun k t hk ht => by
            by_cases e : k = i
            · subst e; rw [Hx.out] at ht; cases ht; exact hz
            · exact Hi.out.1 k t (by omega) ht, hbz⟩
        clear hb3 i0 i3 i4 i5 i6 i7 i8 i9 i10
        rw [← Hbad.out] at Hgo
        cases bad
        case true =>
          have Hres : Hid (St.gofs f params loop l = false) := St.gofs_hit Hx.out (by rw [Hgo.out]; rfl)
          go_wp2_with fail
          go_ret
          exact ⟨by rw [Hres.out]; rfl, Hb1.out.trans (HA3.out.mono Hb1.out.size)⟩
        by_cases h7 : x.kind = 7
        · --<B
          have hq7 : (x.kind == 7) = true := by simp [h7]
          obtain ⟨no, hno⟩ : ∃ t, t = !(x.bnd5 f params && St.gofs f params true x.body) := ⟨_, rfl⟩
          have Hno := Lib.hid hno
          have Hgo7 : Hid (x.gof f params loop = !no) := by show _ = _; rw [Hgo.out, hno, h7]; simp
          have hj : StAt V X 0 x (.slice aa na ca) (.slice ab nb cb) (.slice ad nd cd) (.slice ae ne ce) (.slice ac nc cc) := H2.out.2.later H3.out qX
          clear h7 hno k0
          obtain ⟨i0, i1, i2, i3, i4, i5, i6, i7, i8, i9, i10, i11, i12, i13⟩ := hj
          simp only [Nat.zero_add] at i3 i4 i5 i6 i7 i8 i9 i10 i11
          clear i1 i2 i12 i13
          have Hi11 := Lib.hid i11
          have HDV : Hid (∀ w : World, Below V.heap.size V w → (w.cell? ⟨D, 0, none⟩ = some (.string f.name) ∧ w.cell? ⟨D, 1, none⟩ = some (.slice ap np cp) ∧ w.cell? ⟨D, 2, none⟩ = some (.slice a0 n0 c0)) ∧ w.cell? ⟨X, 11, none⟩ = some (.slice ad nd cd)) := fun w hw => by
            have hA := HA3.out.trans (hw.mono HA3.out.size)
            exact ⟨⟨(hA.cell (p := ⟨D, 0, none⟩) qD).trans HD.out.1, (hA.cell (p := ⟨D, 1, none⟩) qD).trans HD.out.2.1, (hA.cell (p := ⟨D, 2, none⟩) qD).trans HD.out.2.2⟩, (hw.cell (p := ⟨X, 11, none⟩) (Nat.lt_of_lt_of_le qX q3)).trans Hi11.out⟩
          have HI := Lib.hid (And.intro i7 (And.intro i8 (And.intro i9 i10)))
          have qXV : X < V.heap.size := Nat.lt_of_lt_of_le qX q3
          have Hpa := Lib.hid (Hc.out.2.2.1 V HB3.out)
          go_upto_region 8 with (fail)
          go_cut [2, 82] from 55 to 82 (fun v2 b wc => v2 = .bool params ∧ b = .bool no ∧ Below V.heap.size V wc)
          case first =>
            go_wp2_with fail
            refine Hpa.out.mono ?_
            rintro E w4 ⟨rfl, hb4⟩
            obtain ⟨za, hza⟩ : ∃ z, z = x.a.evr plainQ := ⟨_, rfl⟩
            rw [← hza]
            have Hza := Lib.hid hza
            have H4 := Lib.hid hb4
            have k7 := (hb4.cell (p := ⟨X, 7, none⟩) qXV).trans HI.out.1
            have k8 := (hb4.cell (p := ⟨X, 8, none⟩) qXV).trans HI.out.2.1
            have k9 := (hb4.cell (p := ⟨X, 9, none⟩) qXV).trans HI.out.2.2.1
            have k10 := (hb4.cell (p := ⟨X, 10, none⟩) qXV).trans HI.out.2.2.2
            have HB4 : Hid (Below w0.heap.size w0 w4) := HB3.out.trans (hb4.mono HB3.out.size)
            clear hza hb4 i0 i3 i4 i5 i6 i7 i8 i9 i10 i11
            cases za
            · have Hr : Hid (no = true) := by show _ = _; rw [Hno.out]; unfold St.bnd5; rw [← Hza.out]; rfl
              go_wp2_with fail
              go_meet
              case rel => exact ⟨rfl, by rw [Hr.out], H4.out⟩
            have Hpb := Lib.hid (Hc.out.2.2.2.1 w4 HB4.out)
            go_wp2_with fail
            refine Hpb.out.mono ?_
            rintro E w5 ⟨rfl, hb5⟩
            obtain ⟨zb, hzb⟩ : ∃ z, z = x.b.evr plainQ := ⟨_, rfl⟩
            rw [← hzb]
            have Hzb := Lib.hid hzb
            have l7 := (hb5.cell (p := ⟨X, 7, none⟩) (Nat.lt_of_lt_of_le qXV H4.out.size)).trans k7
            have l8 := (hb5.cell (p := ⟨X, 8, none⟩) (Nat.lt_of_lt_of_le qXV H4.out.size)).trans k8
            have l9 := (hb5.cell (p := ⟨X, 9, none⟩) (Nat.lt_of_lt_of_le qXV H4.out.size)).trans k9
            have l10 := (hb5.cell (p := ⟨X, 10, none⟩) (Nat.lt_of_lt_of_le qXV H4.out.size)).trans k10
            have H5 := Lib.hid (H4.out.trans (hb5.mono H4.out.size))
            have HB5 : Hid (Below w0.heap.size w0 w5) := HB4.out.trans (hb5.mono HB4.out.size)
            obtain ⟨⟨d0, d1, d2⟩, l11⟩ := HDV.out w5 H5.out
            clear hzb hb5 k7 k8 k9 k10
            cases zb
            case true =>
              have Hr : Hid (no = !(St.gofs f params true x.body)) := by show _ = _; rw [Hno.out]; unfold St.bnd5; rw [← Hza.out, ← Hzb.out]; rfl
              have Hcall := Lib.hid (Hc.out.2.2.2.2.1 params true w5 HB5.out)
              clear l7 l8 l9 l10
              unfold fnVal at Hcall
              go_wp2_with fail
              refine Hcall.out.mono ?_
              rintro E w6 ⟨rfl, hb6⟩
              obtain ⟨z, hz⟩ : ∃ z, z = St.gofs f params true x.body := ⟨_, rfl⟩
              rw [← hz]
              rw [← hz] at Hr
              have H6 := Lib.hid (H5.out.trans (hb6.mono H5.out.size))
              clear hz hb6 d0 d1 d2 l11 Hcall
              cases z <;>
              · go_wp2_with fail
                go_meet
                case rel => exact ⟨rfl, by rw [Hr.out]; rfl, H6.out⟩
            have Hr0 : Hid (no = !((params && upper5B f x.b) && St.gofs f params true x.body)) := by show _ = _; rw [Hno.out]; unfold St.bnd5; rw [← Hza.out, ← Hzb.out]; rfl
            rcases hpp : params with _ | _
            · have Hr : Hid (no = true) := by show _ = _; rw [Hr0.out, hpp]; rfl
              clear l7 l8 l9 l10 d0 d1 d2 l11
              go_wp2_with fail
              go_meet
              case rel => exact ⟨by first | rfl | rw [hpp], by rw [Hr.out], H5.out⟩
            · have Hupc := Lib.hid (Hc.out.2.2.2.2.2 ab cb w5 HB5.out)
              unfold fnVal at Hupc
              go_wp2_with fail
              refine Hupc.out.mono ?_
              rintro E w6 ⟨rfl, hb6⟩
              obtain ⟨zu, hzu⟩ : ∃ z, z = upper5B f x.b := ⟨_, rfl⟩
              rw [← hzu]
              rw [← hzu] at Hr0
              have H6 := Lib.hid (H5.out.trans (hb6.mono H5.out.size))
              have HB6 : Hid (Below w0.heap.size w0 w6) := HB5.out.trans (hb6.mono HB5.out.size)
              clear hzu hb6 l7 l8 l9 l10 d0 d1 d2 l11 Hupc
              obtain ⟨⟨d0, d1, d2⟩, l11⟩ := HDV.out w6 H6.out
              cases zu
              · have Hr : Hid (no = true) := by show _ = _; rw [Hr0.out, hpp]; rfl
                clear d0 d1 d2 l11
                go_wp2_with fail
                go_meet
                case rel => exact ⟨by first | rfl | rw [hpp], by rw [Hr.out], H6.out⟩
              · have Hr : Hid (no = !(St.gofs f params true x.body)) := by show _ = _; rw [Hr0.out, hpp]; rfl
                have Hcall := Lib.hid (Hc.out.2.2.2.2.1 params true w6 HB6.out)
                unfold fnVal at Hcall
                rw [hpp] at Hcall Hr
                go_wp2_with fail
                refine Hcall.out.mono ?_
                rintro E w7 ⟨rfl, hb7⟩
                obtain ⟨z, hz⟩ : ∃ z, z = St.gofs f true true x.body := ⟨_, rfl⟩
                rw [← hz]
                rw [← hz] at Hr
                have H7 := Lib.hid (H6.out.trans (hb7.mono H6.out.size))
                clear hz hb7 d0 d1 d2 l11 Hcall
                cases z <;>
                · go_wp2_with fail
                  go_meet
                  case rel => exact ⟨by first | rfl | rw [hpp], by rw [Hr.out]; rfl, H7.out⟩
          case rest =>
            obtain ⟨rfl, rfl, hb4⟩ := hcut
            obtain ⟨U, hU⟩ : ∃ V : World, V = wc := ⟨_, rfl⟩
            subst hU
            have HA4 : Hid (Below W1.heap.size W1 U) := HA3.out.trans (hb4.mono HA3.out.size)
            clear hb4 i0 i3 i4 i5 i6 i7 i8 i9 i10 i11
            cases no
            · go_wp2_with fail
              go_roundg (n - (i + 1))
              case measure => have := Hg.out; omega
              case rel => exact Hnext.out _ (by rw [Hgo7.out]; rfl) HA4.out
            · have Hres : Hid (St.gofs f params loop l = false) := St.gofs_hit Hx.out (by rw [Hgo7.out]; rfl)
              go_wp2_with fail
              go_ret
              exact ⟨by rw [Hres.out]; rfl, Hb1.out.trans (HA4.out.mono Hb1.out.size)⟩
          --B>
        · have hq7 : (x.kind == 7) = false := by simp [h7]
          have Hgo7 : Hid (x.gof f params loop = true) := by show _ = _; rw [Hgo.out, decide_eq_true h7]; rfl
          clear h7
          go_wp2_with fail
          go_roundg (n - (i + 1))
          case measure => have := Hg.out; omega
          case rel => exact Hnext.out _ Hgo7.out HA3.out
    · obtain rfl : n = i := by omega
      have Hres : Hid (St.gofs f params loop l = true) := St.gofs_all fun k y hy => Hi.out.1 k y (by rw [Hn.out]; exact (List.getElem?_eq_some_iff.1 hy).1) hy
      have HA : Hid (Below W.heap.size W wr) := Hb1.out.trans (Hi.out.2.mono Hb1.out.size)
      go_wp2_with fail
      go_ret
      exact ⟨by rw [Hres.out]; rfl, HA.out⟩
end Go.Proofs.YtgcplcffejbniaaGreat

namespace Go.Proofs.YtgcplcffejbniaaGreat
open Go.RowKit Go.Maps

mutual
theorem Ex.cho5 : ∀ (x : Ex) (lv : Int), x.err lv = 0 → x.evr choQ = x.evr stillQ
  | .mk k n s l, lv, h => by
    simp only [Ex.err] at h
    by_cases ho : Ex.own (.mk k n s l) lv = 0
    · rw [if_neg (by rw [ho]; decide)] at h
      have hk : 1 ≤ k ∧ k ≤ 20 := by
        unfold Ex.own at ho
        split at ho
        · omega
        split at ho
        · omega
        rename_i hb
        rw [Bool.not_eq_true] at hb
        unfold Ex.badForm at hb
        simp only [Bool.or_eq_false_iff] at hb
        have := hb.1.1.1
        have h2 : kindB k = true := by
          rw [show (Ex.mk k n s l).kind = k from rfl] at this
          cases h : kindB k
          · rw [h] at this; cases this
          · rfl
        exact of_decide_eq_true h2
      simp only [Ex.evr]
      rw [Ex.chos5 l (lv + 1) h]
      congr 1
      unfold choQ stillQ Ex.kind
      simp only
      exact decide_eq_decide.2 (by omega)
    · rw [if_pos ho] at h; exact absurd h ho
theorem Ex.chos5 : ∀ (l : List Ex) (lv : Int), Ex.errs l lv = 0 → Ex.evrs choQ l = Ex.evrs stillQ l
  | [], _, _ => rfl
  | x :: l, lv, h => by
    simp only [Ex.errs] at h
    by_cases h0 : x.err lv = 0
    · rw [if_neg (by rw [h0]; decide)] at h
      simp only [Ex.evrs]
      rw [Ex.cho5 x lv h0, Ex.chos5 l lv h]
    · rw [if_pos h0] at h; exact absurd h h0
end
theorem cho_zero {x : Ex} (h : x.zero = true) : x.evr choQ = x.evr stillQ := by
  unfold Ex.zero at h
  simp only [Bool.and_eq_true, beq_iff_eq] at h
  have ha : x.args = [] := List.length_eq_zero_iff.1 h.2
  rw [Ex.evr_eq, Ex.evr_eq, ha]
  simp [choQ, stillQ, h.1.1.1, Ex.evrs]
theorem goOn_unit (r : Unit × Bool) (k : Unit → Unit × Bool) : (goOn r k).2 = (r.2 && (k ()).2) := by
  unfold goOn
  split
  · rename_i e; simp [e]
  · rename_i e; simp [e]
theorem keepsQ_neg (s : ByteArray) (x : St) (n : Int) : (keepsQ s () x n).2 = !(decide (x.kind = 3 ∧ x.name = s)) := by
  unfold keepsQ
  by_cases h : x.kind = 3 ∧ x.name = s
  · rw [decide_eq_true h]
    exact decide_eq_false (by rintro (h1 | h1); exact h1 h.1; exact h1 h.2)
  · rw [decide_eq_false h]
    exact decide_eq_true (by by_cases h3 : x.kind = 3; exact .inr fun h2 => h ⟨h3, h2⟩; exact .inl h3)
theorem St.wr5_step (s : ByteArray) (x : St) (n m : Int) (h1 : (St.ovrs (keepsQ s) (fun u _ => u) m x.body ()).2 = !(St.wrs s x.body)) (h2 : (Cs.ovrs (keepsQ s) (fun u _ => u) n x.cases ()).2 = !(Cs.wrs s x.cases)) (h3 : (St.ovrs (keepsQ s) (fun u _ => u) n x.els ()).2 = !(St.wrs s x.els)) (hm : m = if x.kind = 7 then n + 1 else n) : (x.ovr (keepsQ s) (fun u _ => u) n ()).2 = !(x.wr s) := by
  rw [St.ovr_eq, St.wr_eq]
  simp only [goOn_unit]
  rw [← hm, h1, h2, h3, keepsQ_neg]
  generalize decide (x.kind = 3 ∧ x.name = s) = q
  generalize St.wrs s x.body = q1
  generalize St.wrs s x.els = q2
  generalize Cs.wrs s x.cases = q3
  cases q <;> cases q1 <;> cases q2 <;> cases q3 <;> rfl
mutual
theorem St.wr5 (s : ByteArray) : ∀ (x : St) (n : Int), (x.ovr (keepsQ s) (fun u _ => u) n ()).2 = !(x.wr s)
  | .mk k nm num a b body els cases, n => St.wr5_step s (.mk k nm num a b body els cases) n _ (St.wrs5 s body _) (Cs.wrs5 s cases n) (St.wrs5 s els n) rfl
theorem St.wrs5 (s : ByteArray) : ∀ (l : List St) (n : Int), (St.ovrs (keepsQ s) (fun u _ => u) n l ()).2 = !(St.wrs s l)
  | [], _ => rfl
  | x :: l, n => by
    simp only [St.ovrs, St.wrs, goOn_unit]
    rw [St.wr5 s x n, St.wrs5 s l n, Bool.not_or]
theorem Cs.wr5 (s : ByteArray) : ∀ (x : Cs) (n : Int), (x.ovr (keepsQ s) (fun u _ => u) n ()).2 = !(x.wr s)
  | .mk _ body, n => by simp only [Cs.ovr, Cs.wr]; exact St.wrs5 s body n
theorem Cs.wrs5 (s : ByteArray) : ∀ (l : List Cs) (n : Int), (Cs.ovrs (keepsQ s) (fun u _ => u) n l ()).2 = !(Cs.wrs s l)
  | [], _ => rfl
  | x :: l, n => by
    simp only [Cs.ovrs, Cs.wrs, goOn_unit]
    rw [Cs.wr5 s x n, Cs.wrs5 s l n, Bool.not_or]
end
theorem upper5_eq (f : Fn) (x : Ex) : upper5B f x = upperB f x := by
  unfold upper5B upperB
  rw [St.wrs5]
  cases decide (x.kind = 2) <;> cases St.wrs x.name f.body <;> cases f.params.any (fun y => decide (y.name = x.name)) <;> rfl
theorem alone5q {f : Fn} {params : Bool} {x : St} {lv n : Int} (hf : x.fine) (hc : (x.chk lv).2 = 0) : (aloneQ f params () x n).2 = (!(x.bad5 (decide (0 < n))) && (decide (x.kind ≠ 7) || x.bnd5 f params)) := by
  have hfr : x.front lv = 0 := by rw [St.chk_eq] at hc; exact (after_two hc).1
  obtain ⟨ha, hb⟩ := front_errs hfr
  have hp := St.formed_parts (St.own_formed ((St.fine_eq x).1 hf).1).1
  have na : x.a.evr choQ = x.a.evr stillQ := by
    rcases hp.2.2.1 with h | h
    · exact Ex.cho5 _ _ (ha h)
    · exact cho_zero h
  have nb : x.b.evr choQ = x.b.evr stillQ := by
    rcases hp.2.2.2.1 with h | h
    · exact Ex.cho5 _ _ (hb h)
    · exact cho_zero h
  unfold aloneQ St.bad5 St.bnd5
  rw [na, nb, upper5_eq]
  generalize x.a.evr stillQ = q1
  generalize x.b.evr stillQ = q2
  generalize (x.a.evr plainQ && (x.b.evr plainQ || (params && upperB f x.b))) = q3
  by_cases h1 : x.kind = 5 ∨ x.kind = 6 ∨ x.kind = 8
  · have e1 : decide (x.kind = 5 ∨ x.kind = 6 ∨ x.kind = 8) = true := decide_eq_true h1
    have e2 : decide (x.kind = 5 ∨ x.kind = 6 ∨ x.kind = 8 ∨ x.kind = 9 ∧ decide (0 < n) = true) = true := decide_eq_true (by omega)
    rw [e1, e2]; rfl
  · have e1 : decide (x.kind = 5 ∨ x.kind = 6 ∨ x.kind = 8) = false := decide_eq_false h1
    have e2 : decide (x.kind = 5 ∨ x.kind = 6 ∨ x.kind = 8 ∨ x.kind = 9 ∧ decide (0 < n) = true) = decide (x.kind = 9 ∧ 0 < n) := decide_eq_decide.2 (by simp only [decide_eq_true_eq]; omega)
    rw [e1, e2]
    cases decide (x.kind = 9 ∧ 0 < n) <;> cases decide (x.kind ≠ 7) <;> cases q1 <;> cases q2 <;> cases q3 <;> rfl
theorem St.alone5_step {f : Fn} {params : Bool} {x : St} {n lv : Int} (hn : 0 ≤ n) (hf : x.fine) (hc : (x.chk lv).2 = 0) (ih : (St.ovrs (aloneQ f params) (fun u _ => u) (n + 1) x.body ()).2 = St.gofs f params (decide (0 < n + 1)) x.body) : (x.ovr (aloneQ f params) (fun u _ => u) n ()).2 = x.gof f params (decide (0 < n)) := by
  have hq := alone5q (f := f) (params := params) (n := n) hf hc
  have hp := St.formed_parts (St.own_formed ((St.fine_eq _).1 hf).1).1
  rw [St.ovr_eq, St.gof_eq]
  simp only [goOn_unit]
  rw [hq]
  have hpd := hp.2.2.2.2.1
  have hpe := hp.2.2.2.2.2.1
  have hpc := hp.2.2.2.2.2.2
  by_cases h7 : x.kind = 7
  · have e1 : x.els = [] := by rcases hpe with h | h
                               · rw [h7] at h; exact absurd h (by decide)
                               · exact h
    have e2 : x.cases = [] := by rcases hpc with h | h
                                 · rw [h7] at h; exact absurd h (by decide)
                                 · exact h
    have e3 : decide (0 < n + 1) = true := decide_eq_true (by omega)
    rw [if_pos h7, ih, e1, e2, e3]
    simp only [Cs.ovrs, St.ovrs, Bool.and_true]
    generalize x.bad5 _ = q1
    generalize x.bnd5 _ _ = q2
    generalize St.gofs _ _ _ _ = q3
    rw [decide_eq_false (show ¬ x.kind ≠ 7 from fun h => h h7)]
    cases q1 <;> cases q2 <;> cases q3 <;> rfl
  · rw [decide_eq_true h7]
    by_cases h56 : x.kind = 5 ∨ x.kind = 6
    · have hbad : x.bad5 (decide (0 < n)) = true := by
        unfold St.bad5
        rw [decide_eq_true (by omega)]; rfl
      rw [hbad]; rfl
    · have e1 : x.els = [] := by rcases hpe with h | h
                                 · exact absurd (of_decide_eq_true h) h56
                                 · exact h
      have e2 : x.cases = [] := by rcases hpc with h | h
                                   · exact absurd (.inr (of_decide_eq_true h)) h56
                                   · exact h
      have e3 : x.body = [] := by rcases hpd with h | h
                                  · rcases of_decide_eq_true h with h | h
                                    · exact absurd (.inl h) h56
                                    · exact absurd h h7
                                  · exact h
      rw [e1, e2, e3]
      simp only [Cs.ovrs, St.ovrs, Bool.and_true, Bool.true_or]
mutual
theorem St.alone5 (f : Fn) (params : Bool) : ∀ (x : St) (n lv : Int), 0 ≤ n → x.fine → (x.chk lv).2 = 0 → (x.ovr (aloneQ f params) (fun u _ => u) n ()).2 = x.gof f params (decide (0 < n))
  | .mk k nm num a b body els cases, n, lv, hn, hf, hc => by
    have hb : (St.chks body (lv + 1)).2 = 0 := by
      rw [St.chk_eq] at hc
      exact (after_two (after_two hc).2).1
    exact St.alone5_step hn hf hc (St.alone5s f params body (n + 1) (lv + 1) (by omega) ((St.fine_eq _).1 hf).2.2.2.1 hb)
theorem St.alone5s (f : Fn) (params : Bool) : ∀ (l : List St) (n lv : Int), 0 ≤ n → St.fines l → (St.chks l lv).2 = 0 → (St.ovrs (aloneQ f params) (fun u _ => u) n l ()).2 = St.gofs f params (decide (0 < n)) l
  | [], _, _, _, _, _ => rfl
  | x :: l, n, lv, hn, hf, hc => by
    simp only [St.fines] at hf
    simp only [St.chks] at hc
    obtain ⟨c1, c2⟩ := after_two hc
    simp only [St.ovrs, St.gofs, goOn_unit]
    rw [St.alone5 f params x n lv hn hf.1 c1, St.alone5s f params l n lv hn hf.2 c2]
end
/-- A function by itself: R5 asks what ranges asks. -/
theorem Fn.alone5 {f : Fn} {params : Bool} (hf : St.fines f.body) (hc : (St.chks f.body 1).2 = 0) : St.gofs f params false f.body = f.alone params :=
  (St.alone5s f params f.body 0 1 (Int.le_refl _) hf hc).symm
end Go.Proofs.YtgcplcffejbniaaGreat
