/- An argument api.Module, opened; and what the listed table says. -/
import Derived.Test.YtggkeodoenhmoaaDoorCopyMod
import Derived.Test.YtggkeodoenhmoaaDoorRows
import Derived.LaidMore
import Derived.MakeChecks
import Derived.OpenShut
namespace Go.Proofs.YtggkeodoenhmoaaDoor
open Go.Joins Go.ChangeShapes Go.WideShapes Go.ChangeAt Go.RowKit Go.Deep

theorem weightsAll_mem {H : Type} {P : Program} {e : TypeId} {m : Nat} {d : DataW H} : ∀ {l : List (DataW H)}, d ∈ l → m ∈ d.weights P e → m ∈ DataW.weightsAll P e l
  | [], h, _ => by simp at h
  | x :: l, h, hm => by
    simp only [DataW.weightsAll, List.mem_append]
    rcases List.mem_cons.1 h with rfl | h
    · exact .inl hm
    · exact .inr (weightsAll_mem h hm)

section
variable {H : Type} {enc : TypeId × Value → H} {P : Program} {w : World} {base : Nat} {spare : Nat → Bool} {held : Bool}
theorem open_agg2 {r : Reach} {b0 : Nat} {t : TypeId} {f0 f1 : Field} {v : Value} {d : DataW H} {p : List MemPlace} (hs : P.underlying t = some (.struct #[f0, f1])) (hone : oneCellFields P #[f0, f1] = true) (hC : P.cellsOf t = 2)
    (hv : Value.okWide P w r b0 t v) (h : DataW.Trod enc P w base spare held t v d p) :
    ∃ (v0 v1 : Value) (y0 y1 : DataW H × List MemPlace) (n : Nat), v = .agg #[v0, v1] ∧ d = .agg [y0.1, y1.1] ∧ p = y0.2 ++ y1.2 ∧
      DataW.trod enc P w base spare held n f0.type [v0] = some y0 ∧ DataW.trod enc P w base spare held n f1.type [v1] = some y1 := by
  obtain ⟨cs, rfl, hsz⟩ := okWide_struct hs hv
  obtain ⟨l⟩ := cs
  match l, hsz.trans hC with
  | [c0, c1], _ =>
    obtain ⟨fuel, hf⟩ := h
    obtain ⟨xs, n, _, hx, _, hlen, hg⟩ := DataW.trod_struct hs hf
    obtain ⟨o0, k0⟩ := hone_of hone 0 f0 rfl
    obtain ⟨o1, k1⟩ := hone_of hone 1 f1 rfl
    match xs, hlen with
    | [y0, y1], _ =>
      simp only [Prod.mk.injEq] at hx
      exact ⟨c0, c1, y0, y1, n, rfl, by simpa using hx.1, by simpa using hx.2, by simpa [Value.cells, o0, k0] using hg 0 f0 rfl, by simpa [Value.cells, o1, k1] using hg 1 f1 rfl⟩
end

section
variable {H : Type} {enc : TypeId × Value → H} {w : World} {base : Nat}
theorem bytesI64 : Tryd.prog.bytesOf 2 = 8 := by kernel_rfl
theorem bytesFunc : Tryd.prog.bytesOf 42 = 80 := by kernel_rfl
theorem cellsI64 : Tryd.prog.cellsOf 2 = 1 := by kernel_rfl

theorem open_i64s {n : Nat} {v : Value} {y : DataW H × List MemPlace} (h : DataW.trod enc Tryd.prog w base (fun _ => true) true n 22 [v] = some y) (hw : ∀ m ∈ y.1.weights Tryd.prog 22, m ≤ reachBytes) :
    ∃ l : List Int, IntsIn w v l ∧ l.length * 8 ≤ reachBytes := by
  rcases open_slice Tryd.underlying22 h with ⟨hc, _⟩ | ⟨a, len, cap, m, n', D, Pl, hc, hb, hl, hm, hmm, hx, hall⟩
  · simp only [List.cons.injEq, and_true] at hc
    subst hc
    exact ⟨[], sliceIn_nil w 1, by unfold reachBytes; simp⟩
  · simp only [List.cons.injEq, and_true] at hc
    simp only [if_true] at hmm
    subst hc; subst hmm
    have hone : ∀ i, ∃ x : Int, i < m → w.cell? (a.add i) = some (.int .i64 x) := fun i => by
      by_cases hi : i < m
      · obtain ⟨cs', hcs, ht⟩ := hall i hi
        rw [cellsI64, Nat.mul_one] at hcs
        obtain ⟨_, hcl, hat⟩ := World.cells?_some hcs
        obtain ⟨n0, e0, _⟩ := DataW.trod_int Tryd.underlying2 ht
        refine ⟨n0, fun _ => ?_⟩
        have := hat 0 (by omega)
        rw [e0] at this
        rw [Go.Deep.add_add] at this
        simpa using this
      · exact ⟨0, fun h => absurd h hi⟩
    obtain ⟨E, hE⟩ := Classical.axiomOfChoice hone
    refine ⟨(List.range len).map E, ?_, ?_⟩
    · have := sliceIn_rows (fun x : Int => [Value.int .i64 x]) 1 (fun _ => rfl) (by omega) w a len m E hl hm (fun i hi r u hu => by
        match r with
        | 0 => simp at hu; subst hu; simpa using hE i (by omega)
        | r + 1 => simp at hu)
      unfold IntsIn intVs
      have e : ∀ l : List Int, l.flatMap (fun x : Int => [Value.int .i64 x]) = l.map (Value.int .i64) := fun l => by
        induction l with
        | nil => rfl
        | cons x l ih => simp [ih]
      rw [e] at this
      simpa using this
    · have h2 := hw (m * 8) (by
        rw [hx]
        simp only [DataW.weights, Tryd.underlying22, bytesI64]
        simp
        left; omega)
      simp; omega

theorem open_funcs {n : Nat} {v : Value} {y : DataW H × List MemPlace} (h : DataW.trod enc Tryd.prog w base (fun _ => true) true n 23 [v] = some y) (hw : ∀ m ∈ y.1.weights Tryd.prog 23, m ≤ reachBytes) :
    ∃ F : List FR, FuncsIn w v F := by
  rcases open_slice_fields Tryd.underlying23 Tryd.underlying42 (by kernel_rfl) (by kernel_rfl) h with ⟨hc, _⟩ | ⟨a, len, cap, m, D, Pl, hc, hb, hl, hm, hmm, hx, hall⟩
  · simp only [List.cons.injEq, and_true] at hc
    subst hc
    exact ⟨[], sliceIn_nil w 5, fun x hx => by simp at hx, by simp⟩
  · simp only [List.cons.injEq, and_true] at hc
    simp only [if_true] at hmm
    subst hc; subst hmm
    have hone : ∀ i, ∃ x : FR, i < len → x.OK w ∧ ∀ r u, x.cells[r]? = some u → w.cell? (a.add (i * 5 + r)) = some u := fun i => by
      by_cases hi : i < len
      · obtain ⟨ys, n', hD, _, hyl, hf⟩ := hall i (by omega)
        obtain ⟨v0, z0, c0, e0, t0⟩ := hf 0 _ rfl
        obtain ⟨v1, z1, c1, e1, t1⟩ := hf 1 _ rfl
        obtain ⟨v2, z2, c2, e2, t2⟩ := hf 2 _ rfl
        obtain ⟨v3, z3, c3, e3, t3⟩ := hf 3 _ rfl
        obtain ⟨v4, z4, c4, e4, t4⟩ := hf 4 _ rfl
        have hwi : ∀ m' ∈ (D i).weights Tryd.prog 42, m' ≤ reachBytes := fun m' hm' => hw m' (by
          rw [hx]
          simp only [DataW.weights, Tryd.underlying23, List.mem_cons, List.mem_append]
          exact .inr (.inl (weightsAll_mem (List.mem_map.2 ⟨i, List.mem_range.2 hi, rfl⟩) hm')))
        match ys, hyl with
        | [y0, y1, y2, y3, y4], _ =>
          simp only [List.getElem?_cons_succ, List.getElem?_cons_zero, Option.some.injEq] at e0 e1 e2 e3 e4
          subst e0; subst e1; subst e2; subst e3; subst e4
          rw [hD] at hwi
          simp only [DataW.weights, Tryd.underlying42, DataW.weightsEach, List.map_cons, List.mem_append] at hwi
          obtain ⟨s, es, _, hs⟩ := DataW.trod_string Tryd.underlying9 t0
          obtain ⟨params, hp, hpn⟩ := open_spans t1 (fun m hm => hwi m (.inr (.inl hm)))
          obtain ⟨n2, en2, _, _⟩ := DataW.trod_int Tryd.underlying3 t2
          obtain ⟨n3, en3, _, _⟩ := DataW.trod_int Tryd.underlying3 t3
          obtain ⟨code, hc, hcn⟩ := open_code t4 (fun m hm => hwi m (.inr (.inr (.inr (.inr (.inl hm))))))
          simp only [List.cons.injEq, and_true] at es en2 en3
          subst es; subst en2; subst en3
          refine ⟨⟨s, v1, n2, n3, v4, params, code⟩, fun _ => ⟨⟨hc, hp, hcn, hpn⟩, fun r u hu => ?_⟩⟩
          match r with
          | 0 => simp [FR.cells] at hu; subst hu; exact c0
          | 1 => simp [FR.cells] at hu; subst hu; exact c1
          | 2 => simp [FR.cells] at hu; subst hu; exact c2
          | 3 => simp [FR.cells] at hu; subst hu; exact c3
          | 4 => simp [FR.cells] at hu; subst hu; exact c4
          | r + 5 => simp [FR.cells] at hu
      · exact ⟨⟨⟨#[]⟩, .slice none 0 0, 0, 0, .slice none 0 0, [], []⟩, fun h => absurd h hi⟩
    obtain ⟨E, hE⟩ := Classical.axiomOfChoice hone
    refine ⟨(List.range len).map E, ?_, fun x hx => ?_, ?_⟩
    · have := sliceIn_rows FR.cells 5 (fun _ => rfl) (by omega) w a len m E hl hm (fun i hi => (hE i hi).2)
      simpa using this
    · obtain ⟨i, hi, rfl⟩ := List.mem_map.1 hx
      exact (hE i (List.mem_range.1 hi)).1
    · have h2 := hw (m * 80) (by
        rw [hx]
        simp only [DataW.weights, Tryd.underlying23, bytesFunc]
        simp
        left; omega)
      unfold reachBytes at h2
      simp; omega

theorem open_module {r : Reach} {b0 : Nat} {v : Value} {d : DataW H} {p : List MemPlace} (hv : Value.okWide Tryd.prog w r b0 25 v) (h : DataW.Trod enc Tryd.prog w base (fun _ => true) true 25 v d p)
    (hw : ∀ m ∈ d.weights Tryd.prog 25, m ≤ reachBytes) : ∃ vt vf ts F, v = modV vt vf ∧ ModIn w vt vf ts F := by
  obtain ⟨v0, v1, y0, y1, n, rfl, rfl, rfl, t0, t1⟩ := open_agg2 Tryd.underlying25 (by kernel_rfl) (by kernel_rfl) hv h
  simp only [DataW.weights, Tryd.underlying25, DataW.weightsEach, List.map_cons, List.mem_append] at hw
  obtain ⟨ts, ht, htn⟩ := open_i64s t0 (fun m hm => hw m (.inl hm))
  obtain ⟨F, hF⟩ := open_funcs t1 (fun m hm => hw m (.inr (.inl hm)))
  exact ⟨v0, v1, ts, F, rfl, ht, hF, htn⟩
end
end Go.Proofs.YtggkeodoenhmoaaDoor
