/- gen: what is rightly formed is fit; how long its code is at most. -/
import Derived.Test.YtgobcldecokppaaDoorGnAll
import Derived.Test.YtgobcldecokppaaDoorRgCheck
namespace Go.Proofs.YtgobcldecokppaaDoor
open Go.RowKit Go.Maps

theorem Ex.own_fit {x : Ex} {lv : Int} (h : x.own lv = 0) : x.kind ≠ 0 ∧ (x.kind = 1 ∨ x.kind = 2 ∨ x.kind = 4 ∨ (x.kind = 3 ∨ x.kind = 5 ∨ x.kind = 6) ∧ 1 ≤ x.args.length ∨ x.kind = 20 ∧ 3 ≤ x.args.length ∨ x.kind ≠ 20 ∧ 2 ≤ x.args.length) := by
  unfold Ex.own at h
  split at h
  · omega
  split at h
  · omega
  rename_i h1
  unfold Ex.badForm kindB arityN at h1
  simp only [Bool.or_eq_true, Bool.and_eq_true, Bool.not_eq_true', decide_eq_true_eq, decide_eq_false_iff_not, not_or, not_and] at h1
  obtain ⟨⟨⟨h2, h3⟩, _⟩, _⟩ := h1
  have h2 : 1 ≤ x.kind ∧ x.kind ≤ 20 := by omega
  refine ⟨by omega, ?_⟩
  by_cases e1 : x.kind = 1
  · exact .inl e1
  by_cases e2 : x.kind = 2
  · exact .inr (.inl e2)
  by_cases e4 : x.kind = 4
  · exact .inr (.inr (.inl e4))
  by_cases e3 : x.kind = 3 ∨ x.kind = 5 ∨ x.kind = 6
  · rw [if_neg (by omega), if_pos e3] at h3
    exact .inr (.inr (.inr (.inl ⟨e3, by have := h3 (by decide); omega⟩)))
  by_cases e20 : x.kind = 20
  · rw [if_neg (by omega), if_neg (by omega), if_neg e4, if_pos e20] at h3
    exact .inr (.inr (.inr (.inr (.inl ⟨e20, by have := h3 (by decide); omega⟩))))
  · rw [if_neg (by omega), if_neg (by omega), if_neg e4, if_neg e20] at h3
    exact .inr (.inr (.inr (.inr (.inr ⟨e20, by have := h3 (by decide); omega⟩))))
mutual
theorem Ex.fit_of_err : ∀ (x : Ex) (lv : Int), x.err lv = 0 → x.short → x.fit ∧ x.kind ≠ 0
  | .mk k n s l, lv, h, hs => by
    rw [Ex.err_eq] at h
    by_cases h0 : (Ex.mk k n s l).own lv = 0
    · rw [if_neg (by rw [h0]; decide)] at h
      have h1 := Ex.own_fit h0
      simp only [Ex.short] at hs
      refine ⟨(Ex.fit_eq _).2 ⟨hs.1, h1.2, Ex.fits_of_errs l (lv + 1) h hs.2⟩, h1.1⟩
    · rw [if_pos h0] at h; exact absurd h h0
theorem Ex.fits_of_errs : ∀ (l : List Ex) (lv : Int), Ex.errs l lv = 0 → Ex.shorts l → Ex.fits l
  | [], _, _, _ => trivial
  | x :: l, lv, h, hs => by
    simp only [Ex.errs] at h
    by_cases h0 : x.err lv = 0
    · rw [if_neg (by rw [h0]; decide)] at h
      simp only [Ex.shorts] at hs
      exact ⟨(Ex.fit_of_err x lv h0 hs.1).1, Ex.fits_of_errs l lv h hs.2⟩
    · rw [if_pos h0] at h; exact absurd h h0
end
theorem Ex.part_of {x : Ex} (h : x.kind ≠ 0) : 1 ≤ x.part := by
  unfold Ex.part Ex.zero
  have h1 : (x.kind == 0) = false := by simp [h]
  rw [h1]
  have h2 := x.total_eq
  simp
  omega
theorem St.fit1_of_front {x : St} {lv : Int} (h : x.front lv = 0) : x.fit1 := by
  obtain ⟨ho, hsa, hsb⟩ := St.front_parts h
  have hs := St.size_of_own ho
  have hkn := (St.formed_parts (St.own_formed ho).1).1
  unfold knownS at hkn
  have hkn := of_decide_eq_true hkn
  unfold St.front at h
  split at h
  · omega
  split at h
  · rename_i h1; exact absurd h h1
  split at h
  · rename_i h2; exact absurd h h2.2
  rename_i h2
  split at h
  · rename_i h3; exact absurd h h3.2
  rename_i h3
  refine ⟨hs, fun n2 n8 => ?_, fun h4 => ?_⟩
  · have hc : cntA x.kind = true := decide_eq_true (by omega)
    have e0 : x.a.err (lv + 1) = 0 := by
      by_cases e : x.a.err (lv + 1) = 0
      · exact e
      · exact absurd ⟨hc, e⟩ h2
    have e1 := Ex.fit_of_err x.a _ e0 hsa
    exact ⟨e1.1, Ex.part_of e1.2⟩
  · have hc : cntB x.kind = true := decide_eq_true h4
    have e0 : x.b.err (lv + 1) = 0 := by
      by_cases e : x.b.err (lv + 1) = 0
      · exact e
      · exact absurd ⟨hc, e⟩ h3
    have e1 := Ex.fit_of_err x.b _ e0 hsb
    exact ⟨e1.1, Ex.part_of e1.2⟩
mutual
theorem St.fit_of_chk : ∀ (x : St) (lv : Int), (x.chk lv).2 = 0 → x.fit
  | .mk k s n a b body els cases, lv, h => by
    simp only [St.chk] at h
    obtain ⟨h1, h2⟩ := after_two h
    obtain ⟨h3, h4⟩ := after_two h2
    obtain ⟨h5, h6⟩ := after_two h4
    simp only [St.fit]
    exact ⟨St.fit1_of_front h1, St.fits_of_chks body _ h3, St.fits_of_chks els _ h6, Cs.fits_of_chks cases _ h5⟩
theorem St.fits_of_chks : ∀ (l : List St) (lv : Int), (St.chks l lv).2 = 0 → St.fits l
  | [], _, _ => by simp only [St.fits]
  | x :: l, lv, h => by
    simp only [St.chks] at h
    obtain ⟨h1, h2⟩ := after_two h
    simp only [St.fits]
    exact ⟨St.fit_of_chk x lv h1, St.fits_of_chks l lv h2⟩
theorem Cs.fits_of_chks : ∀ (l : List Cs) (lv : Int), (Cs.chks l lv).2 = 0 → Cs.fits l
  | [], _, _ => by simp only [Cs.fits]
  | .mk n body :: l, lv, h => by
    simp only [Cs.chks, Cs.chk] at h
    obtain ⟨h1, h2⟩ := after_two h
    simp only [Cs.fits, Cs.fit]
    exact ⟨St.fits_of_chks body lv h1, Cs.fits_of_chks l lv h2⟩
end
theorem gnTwo_len (k t : Int) : (gnTwo k t).length ≤ 2 := by
  unfold gnTwo
  rw [List.length_append]
  refine Nat.add_le_add (b := 1) (d := 1) ?_ ?_ <;> (repeat' split) <;> simp
mutual
theorem Ex.gn_len (V : GEnv) (F : ByteArray → Int) : ∀ (x : Ex) (p : Nat) (t : Int), (x.gn V F p t).length ≤ 5 * x.total
  | .mk k n s l, p, t => by
    have h0 := Ex.gns_len0 V F l
    have h1 := Ex.gns_len1 V F l
    rw [Ex.total_eq]
    simp only [Ex.gn, Ex.args, gnOf]
    obtain ⟨a, ha⟩ : ∃ a, a = (Ex.gns V F l).getD 0 (fun _ _ => []) := ⟨_, rfl⟩
    obtain ⟨b, hb⟩ : ∃ b, b = (Ex.gns V F l).getD 1 (fun _ _ => []) := ⟨_, rfl⟩
    obtain ⟨c, hc⟩ : ∃ c, c = (Ex.gns V F l).getD 2 (fun _ _ => []) := ⟨_, rfl⟩
    rw [← ha, ← hb, ← hc] at h0
    simp only [← ha, ← hb, ← hc]
    split
    · simp only [List.length_cons, List.length_nil]; omega
    split
    · simp only [List.length_cons, List.length_nil]; omega
    split
    · have := h0 p 0 0 t 0 0; simp only [List.length_append, List.length_cons, List.length_nil]; omega
    split
    · have := h1 p t; simp only [List.length_append, List.length_cons, List.length_nil]; omega
    split
    · have := h0 p 0 0 t 0 0; simp only [List.length_append, List.length_cons, List.length_nil]; omega
    split
    · have := h0 p 0 0 t 0 0; simp only [List.length_append, List.length_cons, List.length_nil]; omega
    split
    · have := h0 p (p + (a p t).length + 1) 0 t t 0; simp only [List.length_append, List.length_cons, List.length_nil, gnBit_len]; omega
    split
    · have := h0 p (p + (a p t).length + 3) 0 t t 0; simp only [List.length_append, List.length_cons, List.length_nil, gnBit_len]; omega
    split
    · have := h0 p (p + (a p t).length + 1) (p + (a p t).length + 1 + (b (p + (a p t).length + 1) t).length + 1) t t t; simp only [List.length_append, List.length_cons, List.length_nil]; omega
    · have := h0 p (p + (a p t).length) 0 t (t + 1) 0
      have := gnTwo_len k t
      simp only [List.length_append]; omega
theorem Ex.gns_len0 (V : GEnv) (F : ByteArray → Int) : ∀ (l : List Ex) (p q r : Nat) (t u v : Int), ((Ex.gns V F l).getD 0 (fun _ _ => []) p t).length + ((Ex.gns V F l).getD 1 (fun _ _ => []) q u).length + ((Ex.gns V F l).getD 2 (fun _ _ => []) r v).length ≤ 5 * Ex.totals l
  | [], p, q, r, t, u, v => by simp [Ex.gns, Ex.totals]
  | [x], p, q, r, t, u, v => by
    have h1 := Ex.gn_len V F x p t
    simp only [Ex.gns, Ex.totals, List.getD_cons_zero, List.getD_cons_succ, List.getD_nil, List.length_nil]
    omega
  | [x, y], p, q, r, t, u, v => by
    have h1 := Ex.gn_len V F x p t
    have h2 := Ex.gn_len V F y q u
    simp only [Ex.gns, Ex.totals, List.getD_cons_zero, List.getD_cons_succ, List.getD_nil, List.length_nil]
    omega
  | x :: y :: z :: l, p, q, r, t, u, v => by
    have h1 := Ex.gn_len V F x p t
    have h2 := Ex.gn_len V F y q u
    have h3 := Ex.gn_len V F z r v
    simp only [Ex.gns, Ex.totals, List.getD_cons_zero, List.getD_cons_succ]
    omega
theorem Ex.gns_len1 (V : GEnv) (F : ByteArray → Int) : ∀ (l : List Ex) (p : Nat) (t : Int), (gnCall (Ex.gns V F l) p t).length ≤ 5 * Ex.totals l
  | [], p, t => by simp [Ex.gns, gnCall]
  | x :: l, p, t => by
    have h1 := Ex.gn_len V F x p t
    have h2 := Ex.gns_len1 V F l (p + (x.gn V F p t).length) (t + 1)
    simp only [Ex.gns, gnCall, Ex.totals, List.length_append]
    omega
end
mutual
theorem St.gn_len (F : ByteArray → Int) : ∀ (x : St) (V : GEnv) (wd : Int) (p : Nat) (n : Int), (St.gn F x V wd p n).code.length ≤ 16 * x.total
  | .mk k s num a b body els cases, V, wd, p, n => by
    rw [St.total_eq]
    simp only [St.gn, gnSt, St.body, St.els, St.cases, St.a, St.b]
    have ha := fun V p n => Ex.gn_len V F a p n
    have hb := fun V p n => Ex.gn_len V F b p n
    have hpa := a.total_part
    have hpb := b.total_part
    have h1 := fun V wd p n ns => St.gns_len F body V wd p n ns
    have h2 := fun V wd p n ns => St.gns_len F els V wd p n ns
    have h3 := fun V wd p n => Cs.gns_len F cases V wd p n
    obtain ⟨ca, hca⟩ : ∃ ca, ca = a.gn V F p n := ⟨_, rfl⟩
    have ha := ha V p n
    rw [← hca] at ha
    simp only [← hca]
    split
    · simp only [List.length_append, List.length_cons, List.length_nil, patch_len]
      have e1 := hb V (p + ca.length) (n + 1)
      have e2 := h1 (V.put s ⟨n, 0, 0⟩) wd (p + ca.length + (b.gn V F (p + ca.length) (n + 1)).length + 1) (n + 2) []
      omega
    split
    · simp; omega
    split
    · simp; omega
    split
    · simp only [List.length_append, List.length_cons, List.length_nil]
      have e1 := hb V (p + ca.length + 1) (n + 1)
      omega
    split
    · obtain ⟨o, ho⟩ : ∃ o, o = St.gns F body V wd (p + ca.length + 1) n [] := ⟨_, rfl⟩
      have e1 := h1 V wd (p + ca.length + 1) n []
      simp only [← ho] at e1 ⊢
      cases els.isEmpty with
      | true =>
        simp only [if_true]
        have e2 := h2 o.V o.words (p + ca.length + 1 + o.code.length) n []
        simp only [List.length_append, List.length_cons, List.length_nil]
        omega
      | false =>
        simp only [Bool.false_eq_true, if_false]
        have e2 := h2 o.V o.words (p + ca.length + 1 + o.code.length + 1) n []
        simp only [List.length_append, List.length_cons, List.length_nil]
        omega
    split
    · obtain ⟨o, ho⟩ : ∃ o, o = Cs.gns F cases V wd (p + ca.length) n := ⟨_, rfl⟩
      have e1 := h3 V wd (p + ca.length) n
      simp only [← ho] at e1 ⊢
      have e2 := h2 o.1.V o.1.words (p + ca.length + o.1.code.length) n []
      simp only [List.length_append, patch_len]
      omega
    split
    · simp only [List.length_append, List.length_cons, List.length_nil]; omega
    · show ca.length ≤ _
      omega
theorem St.gns_len (F : ByteArray → Int) : ∀ (l : List St) (V : GEnv) (wd : Int) (p : Nat) (n : Int) (ns : List ByteArray), (St.gns F l V wd p n ns).code.length ≤ 16 * St.totals l
  | [], _, _, _, _, _ => by simp [St.gns]
  | x :: l, V, wd, p, n, ns => by
    simp only [St.gns, St.totals]
    split
    · have h1 := Ex.gn_len V F x.a p n
      have h2 := x.a.total_part
      have h3 := x.total_eq
      have h4 := St.gns_len F l (V.put x.name ⟨n, 0, 0⟩) wd (p + (x.a.gn V F p n).length) (n + 1) (ns ++ [x.name])
      simp only [List.length_append]
      omega
    split
    · have h4 := St.gns_len F l (V.put x.name ⟨0, wd, x.n⟩) (gw64 (wd + x.n)) p n (ns ++ [x.name])
      omega
    · have h1 := St.gn_len F x V wd p n
      have h4 := St.gns_len F l (St.gn F x V wd p n).V (St.gn F x V wd p n).words (p + (St.gn F x V wd p n).code.length) n ns
      simp only [List.length_append]
      omega
theorem Cs.gns_len (F : ByteArray → Int) : ∀ (l : List Cs) (V : GEnv) (wd : Int) (p : Nat) (n : Int), (Cs.gns F l V wd p n).1.code.length ≤ 16 * Cs.totals l
  | [], _, _, _, _ => by simp [Cs.gns]
  | .mk num body :: l, V, wd, p, n => by
    simp only [Cs.gns, Cs.gn, Cs.totals, Cs.total]
    have h1 := St.gns_len F body V wd (p + 3) n []
    have h2 := Cs.gns_len F l (St.gns F body V wd (p + 3) n []).V (St.gns F body V wd (p + 3) n []).words (p + 3 + (St.gns F body V wd (p + 3) n []).code.length + 1) n
    simp only [List.length_append, List.length_cons, List.length_nil]
    omega
end
end Go.Proofs.YtgobcldecokppaaDoor
