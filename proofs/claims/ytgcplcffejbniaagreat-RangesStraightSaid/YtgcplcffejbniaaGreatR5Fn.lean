/- R5's look at a function's Body, where names are right. -/
import Derived.Test.YtgcplcffejbniaaGreatR5Spec
namespace Go.Proofs.YtgcplcffejbniaaGreat
open Go.RowKit Go.Maps

theorem find_take {F : List Fn} {i : Nat} {s : ByteArray} (h : s ∈ gAt F i) : F.find? (fun f => decide (f.name = s)) = (F.take i).find? (fun f => decide (f.name = s)) := by
  have hs : ((F.take i).find? (fun f => decide (f.name = s))).isSome = true := by
    rw [List.find?_isSome]
    unfold gAt at h
    obtain ⟨f, hf, e⟩ := List.mem_map.1 h
    exact ⟨f, hf, by simpa using e⟩
  conv => lhs; rw [← List.take_append_drop i F]
  rw [List.find?_append]
  cases hx : (F.take i).find? (fun f => decide (f.name = s)) with
  | none => rw [hx] at hs; cases hs
  | some y => rfl
theorem parN_ar {F : List Fn} {i : Nat} {s : ByteArray} (h : s ∈ gAt F i) : parN F s = arOf (F.take i) s := by
  have hs : ((F.take i).find? (fun f => decide (f.name = s))).isSome = true := by
    rw [List.find?_isSome]
    unfold gAt at h
    obtain ⟨f, hf, e⟩ := List.mem_map.1 h
    exact ⟨f, hf, by simpa using e⟩
  unfold parN arOf
  rw [find_take h]
  cases hx : (F.take i).find? (fun f => decide (f.name = s)) with
  | none => rw [hx] at hs; cases hs
  | some y => rfl
theorem parK_good5 (l : List Pm) : ∀ p ∈ parK l, p.2 ≠ 0 := fun p hp => by
  obtain ⟨y, _, rfl⟩ := List.mem_map.1 hp
  exact fun h => absurd (show (1 : Int) = 0 from h) (by decide)
theorem parK_one (l : List Pm) (s : ByteArray) : kindOf (parK l) s = if s ∈ l.map (·.name) then 1 else 0 := by
  induction l with
  | nil => simp [parK, kindOf]
  | cons y l ih =>
    have e : parK (y :: l) = (y.name, 1) :: parK l := rfl
    rw [e]
    simp only [kindOf, ih, List.map_cons, List.mem_cons]
    by_cases h : y.name = s
    · simp [h]
    · have h2 : ¬ s = y.name := fun e => h e.symm
      simp [h, h2]
theorem parK_kr (l : List Pm) : KR (parK l) (l.map (·.name)) := fun s => by
  rw [parK_one]
  by_cases h : s ∈ l.map (·.name) <;> simp [h]
/-- R5 meets in function i's Body what ranges.Check meets. -/
theorem fn_r5 {F : List Fn} {i : Nat} {f : Fn} (hf : St.fines f.body) (hc : (St.chks f.body 1).2 = 0) (hn : (St.nchks (parK f.params) (gAt F i) 0 f.body).2 = 0) : St.r5chks (parK f.params) F f.body = St.rchks (f.params.map (·.name)) (arOf (F.take i)) f.body :=
  St.r5s_eq F (arOf (F.take i)) (gAt F i) (fun _ hs => parN_ar hs) f.body (parK f.params) 0 1 _ hf (parK_good5 _) (parK_kr _) hc hn
theorem Cs.r5chk_eq (K : Known) (F : List Fn) (x : Cs) : x.r5chk K F = St.r5chks K F x.body := by cases x; simp only [Cs.r5chk, Cs.body]
mutual
theorem St.r5chk_le (F : List Fn) : ∀ (x : St) (K : Known), (x.r5chk K F).1 ≤ x.total
  | .mk k s n a b body els cases, K => by
    have h1 := St.r5chks_le F body (St.nin5 K (.mk k s n a b body els cases))
    have h2 := Cs.r5chks_le F cases (St.nin5 K (.mk k s n a b body els cases))
    have h3 := St.r5chks_le F els (St.nin5 K (.mk k s n a b body els cases))
    rw [St.r5chk_eq, St.total_eq]
    simp only [St.body, St.cases, St.els] at *
    unfold after
    split
    · simp only; omega
    · split
      · simp only; omega
      · split
        · simp only; omega
        · simp only; omega
theorem St.r5chks_le (F : List Fn) : ∀ (l : List St) (K : Known), (St.r5chks K F l).1 ≤ St.totals l
  | [], _ => Nat.le_refl _
  | x :: l, K => by
    have h1 := St.r5chk_le F x K
    have h2 := St.r5chks_le F l (x.nadd K)
    simp only [St.r5chks, St.totals]
    unfold after
    split
    · omega
    · simp only; omega
theorem Cs.r5chk_le (F : List Fn) : ∀ (x : Cs) (K : Known), (x.r5chk K F).1 ≤ x.total
  | .mk n body, K => by
    have h1 := St.r5chks_le F body K
    rw [Cs.r5chk_eq, Cs.total_eq]
    simp only [Cs.body] at *
    omega
theorem Cs.r5chks_le (F : List Fn) : ∀ (l : List Cs) (K : Known), (Cs.r5chks K F l).1 ≤ Cs.totals l
  | [], _ => Nat.le_refl _
  | x :: l, K => by
    have h1 := Cs.r5chk_le F x K
    have h2 := Cs.r5chks_le F l K
    simp only [Cs.r5chks, Cs.totals]
    unfold after
    split
    · omega
    · simp only; omega
end
end Go.Proofs.YtgcplcffejbniaaGreat
