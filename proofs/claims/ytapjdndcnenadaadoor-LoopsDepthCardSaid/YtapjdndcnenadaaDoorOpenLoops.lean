/- An argument []api.Loop, opened. -/
import Derived.Test.YtapjdndcnenadaaDoorOpen
import Derived.Test.YtapjdndcnenadaaDoorLoops
import Derived.OpenShut
namespace Go.Proofs.YtapjdndcnenadaaDoor
open Go.Joins Go.ChangeShapes Go.WideShapes Go.ChangeAt Go.RowKit Go.Deep

section
variable {H : Type} {enc : TypeId × Value → H} {w : World} {base : Nat}
theorem cellsInt : Tryd.prog.cellsOf 3 = 1 := by kernel_rfl
theorem open_ints {n : Nat} {v : Value} {y : DataW H × List MemPlace} (h : DataW.trod enc Tryd.prog w base (fun _ => true) true n 38 [v] = some y) :
    ∃ l : List Int, IntsIn w v l := by
  rcases open_slice Tryd.underlying38 h with ⟨hc, _⟩ | ⟨a, len, cap, m, n', D, Pl, hc, hb, hl, hm, hmm, hx, hall⟩
  · simp only [List.cons.injEq, and_true] at hc
    subst hc
    exact ⟨[], sliceIn_nil w 1⟩
  · simp only [List.cons.injEq, and_true] at hc
    simp only [if_true] at hmm
    subst hc; subst hmm
    have hone : ∀ i, ∃ x : Int, i < m → w.cell? (a.add i) = some (.int .i64 x) := fun i => by
      by_cases hi : i < m
      · obtain ⟨cs', hcs, ht⟩ := hall i hi
        rw [cellsInt, Nat.mul_one] at hcs
        obtain ⟨_, hcl, hat⟩ := World.cells?_some hcs
        obtain ⟨n0, e0, _⟩ := DataW.trod_int Tryd.underlying3 ht
        refine ⟨n0, fun _ => ?_⟩
        have := hat 0 (by omega)
        rw [e0] at this
        rw [Go.Deep.add_add] at this
        simpa using this
      · exact ⟨0, fun h => absurd h hi⟩
    obtain ⟨E, hE⟩ := Classical.axiomOfChoice hone
    refine ⟨(List.range len).map E, ?_⟩
    have := sliceIn_rows (fun x : Int => [Value.int .i64 x]) 1 (fun _ => rfl) (by omega) w a len m E hl hm (fun i hi r u hu => by
      match r with
      | 0 => simp at hu; subst hu; simpa using hE i (by omega)
      | r + 1 => simp at hu)
    unfold IntsIn intVs
    have e : ∀ l : List Int, l.flatMap (fun x : Int => [Value.int .i64 x]) = l.map (Value.int .i64) := fun l => by
      induction l with
      | nil => rfl
      | cons x l ih => simp [ih]
    rw [e] at this
    simpa using this

theorem open_loops {n : Nat} {v : Value} {y : DataW H × List MemPlace} (h : DataW.trod enc Tryd.prog w base (fun _ => true) true n 27 [v] = some y) :
    ∃ l : List LP, LoopsIn w v l := by
  rcases open_slice_fields Tryd.underlying27 Tryd.underlying40 (by kernel_rfl) (by kernel_rfl) h with ⟨hc, _⟩ | ⟨a, len, cap, m, D, Pl, hc, hb, hl, hm, hmm, hx, hall⟩
  · simp only [List.cons.injEq, and_true] at hc
    subst hc
    exact ⟨[], sliceIn_nil w 4, fun x hx => by simp at hx⟩
  · simp only [List.cons.injEq, and_true] at hc
    simp only [if_true] at hmm
    subst hc; subst hmm
    have hone : ∀ i, ∃ x : LP, i < len → (IntsIn w x.vm x.mem ∧ IntsIn w x.vb x.backs) ∧ ∀ r u, x.cells[r]? = some u → w.cell? (a.add (i * 4 + r)) = some u := fun i => by
      by_cases hi : i < len
      · obtain ⟨ys, n', hD, _, hyl, hf⟩ := hall i (by omega)
        obtain ⟨v0, z0, c0, e0, t0⟩ := hf 0 _ rfl
        obtain ⟨v1, z1, c1, e1, t1⟩ := hf 1 _ rfl
        obtain ⟨v2, z2, c2, e2, t2⟩ := hf 2 _ rfl
        obtain ⟨v3, z3, c3, e3, t3⟩ := hf 3 _ rfl
        obtain ⟨n0, en0, _⟩ := DataW.trod_int Tryd.underlying3 t0
        obtain ⟨n1, en1, _⟩ := DataW.trod_int Tryd.underlying3 t1
        obtain ⟨mem, hmem⟩ := open_ints t2
        obtain ⟨backs, hbacks⟩ := open_ints t3
        simp only [List.cons.injEq, and_true] at en0 en1
        subst en0; subst en1
        refine ⟨⟨n0, n1, v2, v3, mem, backs⟩, fun _ => ⟨⟨hmem, hbacks⟩, fun r u hu => ?_⟩⟩
        match r with
        | 0 => simp [LP.cells] at hu; subst hu; exact c0
        | 1 => simp [LP.cells] at hu; subst hu; exact c1
        | 2 => simp [LP.cells] at hu; subst hu; exact c2
        | 3 => simp [LP.cells] at hu; subst hu; exact c3
        | r + 4 => simp [LP.cells] at hu
      · exact ⟨⟨0, 0, .slice none 0 0, .slice none 0 0, [], []⟩, fun h => absurd h hi⟩
    obtain ⟨E, hE⟩ := Classical.axiomOfChoice hone
    refine ⟨(List.range len).map E, ?_, fun x hx => ?_⟩
    · have := sliceIn_rows LP.cells 4 (fun _ => rfl) (by omega) w a len m E hl hm (fun i hi => (hE i hi).2)
      simpa [loopVs] using this
    · obtain ⟨i, hi, rfl⟩ := List.mem_map.1 hx
      exact (hE i (List.mem_range.1 hi)).1
end
end Go.Proofs.YtapjdndcnenadaaDoor
