/- gen: instructions that are led on later, as plain laws. -/
import Derived.Test.YtgobcldecokppaaDoorGnLstW
namespace Go.Proofs.YtgobcldecokppaaDoor
open Go.RowKit Go.Maps

theorem modify_map {β : Type} {g : Ins → β} {f : Ins → Ins} (hf : ∀ x, g (f x) = g x) : ∀ (l : List Ins) (i : Nat), (l.modify i f).map g = l.map g
  | [], i => by simp
  | x :: l, 0 => by simp [hf]
  | x :: l, i + 1 => by simp [modify_map hf l i]
theorem regsOf_map (r : Int) (l : List Ins) : regsOf r l = (l.map fun x => [x.a, x.b, x.c]).foldl useR r := by
  unfold regsOf
  rw [List.foldl_map]
theorem patch_len (p : Nat) (v : Int) : ∀ (J : List Nat) (l : List Ins), (patchAt l p J v).length = l.length
  | [], l => rfl
  | j :: J, l => by
    show (patchAt (l.modify (j - p) fun x => { x with n := v }) p J v).length = _
    rw [patch_len p v J]
    simp
theorem regsOf_patch (p : Nat) (v r : Int) : ∀ (J : List Nat) (l : List Ins), regsOf r (patchAt l p J v) = regsOf r l
  | [], l => rfl
  | j :: J, l => by
    show regsOf r (patchAt (l.modify (j - p) fun x => { x with n := v }) p J v) = _
    rw [regsOf_patch p v r J, regsOf_map, regsOf_map, modify_map (g := fun x => [x.a, x.b, x.c]) (f := fun x => { x with n := v }) (fun x => rfl)]
theorem mod_left (f : Ins → Ins) (C : List Ins) : ∀ (A : List Ins) (i : Nat), i < A.length → (A ++ C).modify i f = A.modify i f ++ C
  | [], i, h => by simp at h
  | x :: A, 0, _ => by simp
  | x :: A, i + 1, h => by simp [mod_left f C A i (by simpa using h)]
theorem mod_right (f : Ins → Ins) (C : List Ins) : ∀ (A : List Ins) (i : Nat), A.length ≤ i → (A ++ C).modify i f = A ++ C.modify (i - A.length) f
  | [], i, _ => by simp
  | x :: A, 0, h => by simp at h
  | x :: A, i + 1, h => by simp [mod_right f C A i (by simpa using h)]
theorem patch_left (C : List Ins) (p : Nat) (v : Int) : ∀ (J : List Nat) (A : List Ins), (∀ j ∈ J, j - p < A.length) → patchAt (A ++ C) p J v = patchAt A p J v ++ C
  | [], A, _ => rfl
  | j :: J, A, h => by
    show patchAt ((A ++ C).modify (j - p) fun x => { x with n := v }) p J v = patchAt (A.modify (j - p) fun x => { x with n := v }) p J v ++ C
    rw [mod_left _ _ _ _ (h j (by simp)), patch_left C p v J]
    intro i hi
    simpa using h i (by simp [hi])
theorem patch_right (A : List Ins) (p : Nat) (v : Int) : ∀ (J : List Nat) (C : List Ins), (∀ j ∈ J, p + A.length ≤ j) → patchAt (A ++ C) p J v = A ++ patchAt C (p + A.length) J v
  | [], C, _ => rfl
  | j :: J, C, h => by
    show patchAt ((A ++ C).modify (j - p) fun x => { x with n := v }) p J v = A ++ patchAt (C.modify (j - (p + A.length)) fun x => { x with n := v }) (p + A.length) J v
    have h1 := h j (by simp)
    rw [mod_right _ _ _ _ (by omega), show j - p - A.length = j - (p + A.length) by omega, patch_right A p v J]
    intro i hi
    exact h i (by simp [hi])
theorem mod_comm (f : Ins → Ins) (l : List Ins) (i j : Nat) : (l.modify i f).modify j f = (l.modify j f).modify i f := by
  apply List.ext_getElem?
  intro k
  simp only [List.getElem?_modify]
  cases l[k]? with
  | none => rfl
  | some x => simp only [Option.map_eq_map, Option.map_some]; by_cases h1 : i = k <;> by_cases h2 : j = k <;> simp [h1, h2]
theorem patch_rev (l : List Ins) (p : Nat) (J : List Nat) (v : Int) : patchAt l p J.reverse v = patchAt l p J v := by
  unfold patchAt
  exact (List.reverse_perm J).foldl_eq' (fun x _ y _ z => mod_comm _ _ _ _) l
/-- Instructions at some places lead to the next one. -/
def GS.leads (s : GS) (J : List Nat) : GS := { s with code := patchAt s.code 0 J (s.code.length : Int) }
theorem leads_nil (s : GS) : s.leads [] = s := rfl
theorem leads_cons (s : GS) (i : Nat) (J : List Nat) : s.leads (i :: J) = (s.lead i).leads J := by
  unfold GS.leads GS.lead
  simp [patchAt]
theorem leads_snoc (s : GS) (i : Nat) (J : List Nat) : s.leads (J ++ [i]) = (s.leads J).lead i := by
  unfold GS.leads GS.lead
  rw [patch_len]
  simp [patchAt, List.foldl_append]
theorem leads_len (s : GS) (J : List Nat) : (s.leads J).code.length = s.code.length := patch_len _ _ _ _
theorem leads_rev (s : GS) (J : List Nat) : s.leads J.reverse = s.leads J := by unfold GS.leads; rw [patch_rev]
mutual
theorem St.gn_brk_in (F : ByteArray → Int) : ∀ (x : St) (V : GEnv) (wd : Int) (p : Nat) (n : Int) (j : Nat), j ∈ (St.gn F x V wd p n).brk → p ≤ j ∧ j < p + (St.gn F x V wd p n).code.length
  | .mk k s num a b body els cases, V, wd, p, n, j => by
    simp only [St.gn, gnSt]
    have h1 := fun V wd p n ns => St.gns_brk_in F body V wd p n ns j
    have h2 := fun V wd p n ns => St.gns_brk_in F els V wd p n ns j
    have h3 := fun V wd p n => Cs.gns_brk_in F cases V wd p n j
    obtain ⟨ca, hca⟩ : ∃ ca, ca = a.gn V F p n := ⟨_, rfl⟩
    simp only [← hca]
    split
    · simp
    split
    · intro h; simp at h; subst h; simp
    split
    · simp
    split
    · simp
    split
    · obtain ⟨o, ho⟩ : ∃ o, o = St.gns F body V wd (p + ca.length + 1) n [] := ⟨_, rfl⟩
      have e1 := h1 V wd (p + ca.length + 1) n []
      simp only [← ho] at e1 ⊢
      cases els.isEmpty with
      | true =>
        simp only [if_true]
        obtain ⟨o2, ho2⟩ : ∃ o2, o2 = St.gns F els o.V o.words (p + ca.length + 1 + o.code.length) n [] := ⟨_, rfl⟩
        have e2 := h2 o.V o.words (p + ca.length + 1 + o.code.length) n []
        simp only [← ho2] at e2 ⊢
        intro h
        simp only [List.length_append, List.length_cons, List.length_nil]
        rcases List.mem_append.1 h with h | h
        · have := e1 h; omega
        · have := e2 h; omega
      | false =>
        simp only [Bool.false_eq_true, if_false]
        obtain ⟨o2, ho2⟩ : ∃ o2, o2 = St.gns F els o.V o.words (p + ca.length + 1 + o.code.length + 1) n [] := ⟨_, rfl⟩
        have e2 := h2 o.V o.words (p + ca.length + 1 + o.code.length + 1) n []
        simp only [← ho2] at e2 ⊢
        intro h
        simp only [List.length_append, List.length_cons, List.length_nil]
        rcases List.mem_append.1 h with h | h
        · have := e1 h; omega
        · have := e2 h; omega
    split
    · obtain ⟨o, ho⟩ : ∃ o, o = Cs.gns F cases V wd (p + ca.length) n := ⟨_, rfl⟩
      have e1 := (h3 V wd (p + ca.length) n).1
      simp only [← ho] at e1 ⊢
      obtain ⟨o2, ho2⟩ : ∃ o2, o2 = St.gns F els o.1.V o.1.words (p + ca.length + o.1.code.length) n [] := ⟨_, rfl⟩
      have e2 := h2 o.1.V o.1.words (p + ca.length + o.1.code.length) n []
      simp only [← ho2] at e2 ⊢
      intro h
      simp only [List.length_append, patch_len]
      rcases List.mem_append.1 h with h | h
      · have := e1 h; omega
      · have := e2 h; omega
    split
    · simp
    · simp
theorem St.gns_brk_in (F : ByteArray → Int) : ∀ (l : List St) (V : GEnv) (wd : Int) (p : Nat) (n : Int) (ns : List ByteArray) (j : Nat), j ∈ (St.gns F l V wd p n ns).brk → p ≤ j ∧ j < p + (St.gns F l V wd p n ns).code.length
  | [], _, _, _, _, _, _ => by simp [St.gns]
  | x :: l, V, wd, p, n, ns, j => by
    simp only [St.gns]
    split
    · intro h
      have := St.gns_brk_in F l _ _ _ _ _ j h
      simp only [List.length_append]
      omega
    split
    · exact St.gns_brk_in F l _ _ _ _ _ j
    · intro h
      simp only [List.length_append]
      rcases List.mem_append.1 h with h | h
      · have := St.gn_brk_in F x _ _ _ _ j h; omega
      · have := St.gns_brk_in F l _ _ _ _ _ j h; omega
theorem Cs.gns_brk_in (F : ByteArray → Int) : ∀ (l : List Cs) (V : GEnv) (wd : Int) (p : Nat) (n : Int) (j : Nat), (j ∈ (Cs.gns F l V wd p n).1.brk → p ≤ j ∧ j < p + (Cs.gns F l V wd p n).1.code.length) ∧ (j ∈ (Cs.gns F l V wd p n).2 → p ≤ j ∧ j < p + (Cs.gns F l V wd p n).1.code.length)
  | [], _, _, _, _, _ => by simp [Cs.gns]
  | .mk num body :: l, V, wd, p, n, j => by
    simp only [Cs.gns, Cs.gn]
    have h1 := St.gns_brk_in F body V wd (p + 3) n [] j
    obtain ⟨o, ho⟩ : ∃ o, o = St.gns F body V wd (p + 3) n [] := ⟨_, rfl⟩
    simp only [← ho] at h1 ⊢
    have h2 := Cs.gns_brk_in F l o.V o.words (p + 3 + o.code.length + 1) n j
    obtain ⟨o2, ho2⟩ : ∃ o2, o2 = Cs.gns F l o.V o.words (p + 3 + o.code.length + 1) n := ⟨_, rfl⟩
    simp only [← ho2] at h2 ⊢
    simp only [List.length_append, List.length_cons, List.length_nil]
    refine ⟨fun h => ?_, fun h => ?_⟩
    · rcases List.mem_append.1 h with h | h
      · have := h1 h; omega
      · have := h2.1 h; omega
    · rcases List.mem_cons.1 h with h | h
      · omega
      · have := h2.2 h; omega
end
end Go.Proofs.YtgobcldecokppaaDoor
