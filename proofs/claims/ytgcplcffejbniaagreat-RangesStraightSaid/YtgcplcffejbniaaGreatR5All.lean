/- R5's look at ranges: a list of statements. (its words; the walk is XR5AllW) -/
import Derived.Test.YtgcplcffejbniaaGreatR5Fn
import Derived.Test.YtgcplcffejbniaaGreatHeldZ
namespace Go.Proofs.YtgcplcffejbniaaGreat
open Go.RowKit Go.Maps

def R5ListOk (w0 : World) (F : List Fn) (vf : Value) (l : List St) (v : Value) : Prop := ∀ (W : World) (c : Nat) (vw kv : Value) (K : Known) (n e : Int), Below w0.heap.size w0 W → w0.heap.size ≤ c → W5At W c vw vf kv K n e →
  0 ≤ n → n + (St.totals l : Int) ≤ 1000000 → K.length + St.totals l ≤ 90000 →
  Calls Tryz.prog 17 #[ptrV c, v] W (fun E W' => E = .returned (.tuple #[]) ∧ ∃ kv', W5At W' c vw vf kv' K (n + goN e (St.r5chks K F l).1) (keepE e (St.r5chks K F l).2) ∧ WStep W W' c c c kv kv')
theorem St.r5chks_next {K : Known} {F : List Fn} {l : List St} {i : Nat} {x : St} (h : l[i]? = some x) : St.r5chks K F (l.take (i + 1)) = after (St.r5chks K F (l.take i)) (x.r5chk (kAfter K (l.take i)) F) := by
  induction l generalizing K i with
  | nil => simp at h
  | cons y l ih =>
    cases i with
    | zero => simp at h; subst h; simp [St.r5chks, after_zero, zero_after, kAfter]
    | succ i =>
      simp only [List.take_succ_cons, St.r5chks]
      rw [ih (K := y.nadd K) (by simpa using h), after_assoc]
      rfl
theorem Cs.r5chks_next {K : Known} {F : List Fn} {l : List Cs} {i : Nat} {x : Cs} (h : l[i]? = some x) : Cs.r5chks K F (l.take (i + 1)) = after (Cs.r5chks K F (l.take i)) (x.r5chk K F) := by
  induction l generalizing i with
  | nil => simp at h
  | cons y l ih =>
    cases i with
    | zero => simp at h; subst h; simp [Cs.r5chks, after_zero, zero_after]
    | succ i =>
      simp only [List.take_succ_cons, Cs.r5chks]
      rw [ih (by simpa using h), after_assoc]
theorem St.r5chks_append (K : Known) (F : List Fn) (l m : List St) : St.r5chks K F (l ++ m) = after (St.r5chks K F l) (St.r5chks (kAfter K l) F m) := by
  induction l generalizing K with
  | nil => simp only [List.nil_append, St.r5chks, zero_after, kAfter, List.foldl_nil]
  | cons y l ih =>
    simp only [List.cons_append, St.r5chks, ih, after_assoc]
    rfl
/-- Once something is wrong, the rest is not met. -/
theorem St.r5chks_stop {K : Known} {F : List Fn} {l : List St} {i : Nat} (h : (St.r5chks K F (l.take i)).2 ≠ 0) : St.r5chks K F l = St.r5chks K F (l.take i) := by
  conv => lhs; rw [← List.take_append_drop i l]
  rw [St.r5chks_append, after_err h]
theorem len_tot5 : ∀ l : List St, l.length ≤ St.totals l
  | [] => Nat.le_refl _
  | x :: l => by
    have h := len_tot5 l
    have h2 := x.total_eq
    simp only [List.length_cons, St.totals]
    omega
theorem W5At.after {w : World} {c : Nat} {vw vf kv : Value} {K : Known} {n : Int} {r q : Nat × Int} (h : W5At w c vw vf kv K (n + (r.1 : Int) + goN r.2 q.1) (keepE r.2 q.2)) : W5At w c vw vf kv K (n + ((after r q).1 : Int)) (after r q).2 := by
  by_cases he : r.2 = 0
  · rw [after_ok he]
    rw [he, goN_zero, keepE_zero] at h
    exact h.to rfl (by simp only; omega) rfl
  · rw [after_err he]
    rw [goN_no he, keepE_no he] at h
    exact h.to rfl (by omega) rfl
/-- append of one variable, within a region that draws its order. -/
theorem append5_wp {o : Oper} {a : Act} {Kc : Act → World → Prop} {Q : Exit → Act → World → Prop} {w : World} (s x : Operand)
    (ho : o.op = .call { callee := .builtin .append, args := #[s, x], argTypes := #[54, 54] })
    (B : Nat) (v : Value) (K : Known) (hs : a.eval s = v) (hown : OwnVars w B v K) (y : ByteArray) (k z : Int) (hz : kb k = z) (Z : Nat) (hx : a.eval x = .slice (some ⟨Z, 0, none⟩) 1 1)
    (hZ : (w.cell? ⟨Z, 0, none⟩ = some (.string y) ∧ w.cell? ⟨Z, 1, none⟩ = some (.int .u8 z)) ∧ Z < w.heap.size) (hl : K.length ≤ 1000000000000) (hB : B ≤ w.heap.size)
    (h : ∀ v' w', OwnVars w' B v' (K ++ [(y, k)]) → w.grownBy w' v.ownBlock → Fresh w v v' → Kc (a.put o.dst v') w') : o.wp Tryz.prog a w Kc Q := by
  have hsrc : SliceIn w (.slice (some ⟨Z, 0, none⟩) 1 1) 1 2 [.string y, .int .u8 z] := ⟨rfl, _, _, rfl, Nat.le_refl _, by decide, by simp, fun _ => ⟨_, 0, rfl, hZ.2, fun o u h => by
    rw [Nat.zero_add]
    match o, h with
    | 0, h => simp at h; subst h; exact hZ.1.1
    | 1, h => simp at h; subst h; exact hZ.1.2
    | o + 2, h => simp at h⟩⟩
  have hone : ∀ u ∈ [Value.string y, .int .u8 z], u.oneCell' = true := by intro u hu; simp at hu; rcases hu with rfl | rfl <;> rfl
  obtain ⟨v', w', hr, h2, h3, h4⟩ := append_run (ty := o.type) Tryz.underlying54 Tryz.infoVar rfl (by decide) B v K.length (varVs K) hown _ 1 [.string y, .int .u8 z] hsrc hone (by unfold maxLen; omega) (by omega) hB
  unfold Oper.wp execOp
  simp only [ho, resolve, invoke, builtin, Sem.run_bind, Sem.run_pure, Result.andThen_ok, List.map_toArray, List.map_cons, List.map_nil, hs, hx, hr]
  exact h v' w' (by unfold OwnVars varVs at *; rw [← hz] at h2; simpa using h2) h3 h4
/-- A walk behind an append to what is known. -/
theorem W5At.grow {w W7 w4 : World} {c : Nat} {vw vf kv v4 : Value} {K : Known} {n e : Int} {s : ByteArray} {k : Int} (h : W5At w c vw vf kv K n e) (hk : 1 ≤ k ∧ k ≤ 4) (hb : Below w.heap.size w W7) (hown : OwnVars w4 (c + 1) v4 (K ++ [(s, k)])) (hg : W7.grownBy w4 kv.ownBlock) (hfr : Fresh W7 kv v4) :
    Oth (fun j => kv.ownBlock = some j) w w4 ∧ (w4.cell? ⟨c, 2, none⟩ = some kv ∧ w4.frozen? ⟨c, 2, none⟩ = false) ∧ W5At (w4.setCell ⟨c, 2, none⟩ v4) c vw vf v4 (K ++ [(s, k)]) n e ∧ WStep w (w4.setCell ⟨c, 2, none⟩ v4) c c c kv v4 := by
  have q := h.in
  have ow := h.own
  have hOa : Oth (fun j => kv.ownBlock = some j) w W7 := .of_below hb
  have hO : Oth (fun j => kv.ownBlock = some j) w w4 := hOa.trans ⟨hg.os, hg.tape, hg.output, hg.size, fun i hi hc => hg.block i hi (fun e => hc e.symm)⟩
  have hnc : ¬ kv.ownBlock = some c := fun e => by have := ow c e; omega
  have hK : ∀ p ∈ K ++ [(s, k)], 1 ≤ p.2 ∧ p.2 ≤ 4 := fun p hp => by
    rcases List.mem_append.1 hp with h1 | h1
    · exact h.kinds p h1
    · simp at h1; subst h1; exact hk
  refine ⟨hO, ⟨(hO.cell (p := ⟨c, 2, none⟩) q hnc).trans h.c2, (hO.frozen (p := ⟨c, 2, none⟩) q hnc).trans (h.f 2 (by decide))⟩, h.putKnown hO hnc hown hK, ⟨⟨hO.os, hO.tape, hO.output, by rw [size_set]; exact hO.size, fun i hi hs => ?_⟩, fun i hi he => ?_⟩⟩
  · have h1 : i ≠ c := fun e => hs (.inr (.inl e))
    rw [Below.heap_setCell _ _ _ _ (fun e => h1 (by rw [e]))]
    exact hO.block i hi fun e => hs (.inr (.inr (.inr e)))
  · by_cases h1 : kv.ownBlock = some i
    · exact h1
    · exact absurd he (hfr i (Nat.lt_of_lt_of_le hi hb.size) h1)
end Go.Proofs.YtgcplcffejbniaaGreat
