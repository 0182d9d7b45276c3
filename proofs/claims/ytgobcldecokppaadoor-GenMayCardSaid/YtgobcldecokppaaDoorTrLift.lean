/- From a walk over a program that answers true and leaves what was there to the contract that a row asks. -/
import Derived.Test.YtgobcldecokppaaDoorRgRng
import Derived.ProofKit
import Derived.SizedLaws
import Derived.Lib.SmallJoins
import Derived.Deep.Slices
import Derived.Deep.Fields
import Derived.Test.YtgobcldecokppaaDoorRows
/- An argument api.Program, opened: a tree as plain data. -/
namespace Go.Proofs.YtgobcldecokppaaDoor
open Go.Joins Go.ChangeShapes Go.WideShapes Go.ChangeAt Go.RowKit Go.Deep

section
variable {H : Type} {enc : TypeId × Value → H} {P : Program} {w : World} {base : Nat} {spare : Nat → Bool} {held : Bool}
theorem open_pair {r : Reach} {b0 : Nat} {t : TypeId} {f0 f1 : Field} {v : Value} {d : DataW H} {p : List MemPlace} (hs : P.underlying t = some (.struct #[f0, f1])) (hone : oneCellFields P #[f0, f1] = true) (hC : P.cellsOf t = 2)
    (hv : Value.okWide P w r b0 t v) (h : DataW.Trod enc P w base spare held t v d p) :
    ∃ (v0 v1 : Value) (y0 y1 : DataW H × List MemPlace) (n : Nat), v = .agg #[v0, v1] ∧ d = .agg [y0.1, y1.1] ∧ p = y0.2 ++ y1.2 ∧
      DataW.trod enc P w base spare held n f0.type [v0] = some y0 ∧ DataW.trod enc P w base spare held n f1.type [v1] = some y1 := by
  obtain ⟨cs, rfl, hsz⟩ := okWide_struct hs hv
  obtain ⟨l⟩ := cs
  match l, hsz.trans hC with
  | [c0, c1], _ =>
    obtain ⟨fuel, hf⟩ := h
    obtain ⟨xs, n, _, hx, _, hlen, hg⟩ := DataW.trod_struct hs hf
    obtain ⟨o0, k0⟩ := hone_of hone 0 f0 rfl
    obtain ⟨o1, k1⟩ := hone_of hone 1 f1 rfl
    match xs, hlen with
    | [y0, y1], _ =>
      simp only [Prod.mk.injEq] at hx
      exact ⟨c0, c1, y0, y1, n, rfl, by simpa using hx.1, by simpa using hx.2, by simpa [Value.cells, o0, k0] using hg 0 f0 rfl, by simpa [Value.cells, o1, k1] using hg 1 f1 rfl⟩
/-- A slice value that reads, place by place. -/
theorem open_row {t e : TypeId} {size fuel : Nat} {v : Value} {x : DataW H × List MemPlace} (ht : P.underlying t = some (.slice e)) (hC : P.cellsOf e = size) (hsz : 0 < size) (h : DataW.trod enc P w base spare held fuel t [v] = some x) :
    ∃ (len : Nat) (cs : Nat → List Value), RowOf w v len size (fun b o i => ∀ j u, (cs i)[j]? = some u → w.cell? ⟨b, o + j, none⟩ = some u) ∧ ∀ i, i < len → (cs i).length = size ∧ ∃ n y, n < fuel ∧ DataW.trod enc P w base spare held n e (cs i) = some y := by
  rcases DataW.trod_slice ht h with ⟨h0, _⟩ | ⟨a, len, cap, elems, rest, n, hfu, hcs, _, _, hl, hm, hlen, hel, _, _⟩
  · simp only [List.cons.injEq, and_true] at h0
    subst h0
    exact ⟨0, fun _ => [], ⟨none, 0, rfl, Nat.le_refl _, Nat.zero_le _, fun _ => rfl, fun h => absurd h (Nat.lt_irrefl _)⟩, fun i hi => absurd hi (Nat.not_lt_zero _)⟩
  · simp only [List.cons.injEq, and_true] at hcs
    subst hcs
    have hone : ∀ i, ∃ c : List Value, i < len → w.cells? base (a.add (i * size)) size = some c ∧ ∃ y, DataW.trod enc P w base spare held n e c = some y := fun i => by
      by_cases hi : i < len
      · have h1 := hel i hi
        rw [hC, List.getElem?_eq_getElem (by omega)] at h1
        obtain ⟨c, h2, h3⟩ := Option.bind_eq_some_iff.1 h1
        exact ⟨c, fun _ => ⟨h2, _, h3⟩⟩
      · exact ⟨[], fun h => absurd h hi⟩
    obtain ⟨cs, hcs⟩ := Classical.axiomOfChoice hone
    refine ⟨len, cs, ⟨some a, cap, rfl, hl, hm, by simp, fun h0 => ?_⟩, fun i hi => ?_⟩
    · obtain ⟨hc, _⟩ := hcs 0 h0
      obtain ⟨_, hcl, hat⟩ := World.cells?_some hc
      have hc0 : w.cell? ((a.add (0 * size)).add 0) = some ((cs 0)[0]'(by omega)) := by rw [hat 0 hsz]; exact List.getElem?_eq_getElem (by omega)
      have hsp := World.cell?_spot hc0
      have hbl := World.block_lt_of_cell? w _ hc0
      obtain ⟨b, off, sp⟩ := a
      simp [Addr.add] at hsp hbl
      subst hsp
      refine ⟨b, off, rfl, hbl, fun i hi j u hu => ?_⟩
      obtain ⟨hc, _⟩ := hcs i hi
      obtain ⟨_, hcl, hat⟩ := World.cells?_some hc
      have hj : j < size := by have := (List.getElem?_eq_some_iff.1 hu).1; omega
      have h1 := hat j hj
      rw [hu, Go.Deep.add_add] at h1
      unfold Addr.add at h1
      split at h1
      · rename_i h0; rw [show off + i * size + j = off by omega]; exact h1
      · rw [show off + i * size + j = off + (i * size + j) by omega]; exact h1
    · obtain ⟨hc, y, hy⟩ := hcs i hi
      obtain ⟨_, hcl, _⟩ := World.cells?_some hc
      exact ⟨hcl, n, y, by omega, hy⟩
end

section
variable {H : Type} {enc : TypeId × Value → H} {w : World} {base : Nat} {spare : Nat → Bool} {held : Bool}
/-- A struct's fields of one cell each. -/
theorem open_cells {e : TypeId} {fs : Array Field} {fuel : Nat} {cs : List Value} {y : DataW H × List MemPlace} (he : Tryd.prog.underlying e = some (.struct fs)) (h : DataW.trod enc Tryd.prog w base spare held fuel e cs = some y) :
    ∃ n, n < fuel ∧ ∀ (j : Nat) (f : Field), fs[j]? = some f → ∃ z, DataW.trod enc Tryd.prog w base spare held n f.type ((cs.drop f.offset).take (Tryd.prog.cellsOf f.type)) = some z := by
  obtain ⟨xs, n, hn, _, _, hlen, hf⟩ := DataW.trod_struct he h
  exact ⟨n, by omega, fun j f hj => ⟨xs[j]'(by have := (Array.getElem?_eq_some_iff.1 hj).1; omega), (hf j f hj).trans (List.getElem?_eq_getElem _)⟩⟩
theorem len4 {l : List Value} (h : l.length = 4) : ∃ a b c d, l = [a, b, c, d] := by
  match l, h with
  | [a, b, c, d], _ => exact ⟨a, b, c, d, rfl⟩
theorem len2 {l : List Value} (h : l.length = 2) : ∃ a b, l = [a, b] := by
  match l, h with
  | [a, b], _ => exact ⟨a, b, rfl⟩
theorem len3 {l : List Value} (h : l.length = 3) : ∃ a b c, l = [a, b, c] := by
  match l, h with
  | [a, b, c], _ => exact ⟨a, b, c, rfl⟩
theorem len14 {l : List Value} (h : l.length = 14) : ∃ a0 a1 a2 a3 a4 a5 a6 a7 a8 a9 a10 a11 a12 a13, l = [a0, a1, a2, a3, a4, a5, a6, a7, a8, a9, a10, a11, a12, a13] := by
  match l, h with
  | [a0, a1, a2, a3, a4, a5, a6, a7, a8, a9, a10, a11, a12, a13], _ => exact ⟨a0, a1, a2, a3, a4, a5, a6, a7, a8, a9, a10, a11, a12, a13, rfl⟩
theorem cellsExpr : Tryd.prog.cellsOf 53 = 4 := by kernel_rfl
theorem cellsStmt : Tryd.prog.cellsOf 56 = 14 := by kernel_rfl
theorem cellsCase : Tryd.prog.cellsOf 90 = 2 := by kernel_rfl
theorem cellsFn : Tryd.prog.cellsOf 40 = 3 := by kernel_rfl
theorem cellsParam : Tryd.prog.cellsOf 49 = 3 := by kernel_rfl
theorem cellsInt : Tryd.prog.cellsOf 3 = 1 := by kernel_rfl
theorem cellsI64' : Tryd.prog.cellsOf 2 = 1 := by kernel_rfl
theorem cellsStr : Tryd.prog.cellsOf 9 = 1 := by kernel_rfl
theorem cellsExs : Tryd.prog.cellsOf 51 = 1 := by kernel_rfl
theorem cellsSts : Tryd.prog.cellsOf 38 = 1 := by kernel_rfl
theorem cellsCss : Tryd.prog.cellsOf 54 = 1 := by kernel_rfl
theorem cellsPms : Tryd.prog.cellsOf 37 = 1 := by kernel_rfl
/-- An expression's cells. -/
theorem open_expr {fuel : Nat} {cs : List Value} {y : DataW H × List MemPlace} (h : DataW.trod enc Tryd.prog w base spare held fuel 53 cs = some y) (hl : cs.length = 4) :
    ∃ (k m : Int) (s : ByteArray) (v : Value) (n : Nat) (z : DataW H × List MemPlace), cs = [.int .i64 k, .int .i64 m, .string s, v] ∧ n < fuel ∧ DataW.trod enc Tryd.prog w base spare held n 51 [v] = some z ∧ in64 m := by
  obtain ⟨a, b, c, d, rfl⟩ := len4 hl
  obtain ⟨n, hn, hf⟩ := open_cells Tryd.underlying53 h
  obtain ⟨z0, t0⟩ := hf 0 _ rfl
  obtain ⟨z1, t1⟩ := hf 1 _ rfl
  obtain ⟨z2, t2⟩ := hf 2 _ rfl
  obtain ⟨z3, t3⟩ := hf 3 _ rfl
  simp only [List.getElem_toArray, List.getElem_cons_zero, List.getElem_cons_succ, List.drop_zero, List.drop_succ_cons, List.take_succ_cons, List.take_zero, cellsInt, cellsI64', cellsStr, cellsExs] at t0 t1 t2 t3
  obtain ⟨n0, e0, _⟩ := DataW.trod_int Tryd.underlying3 t0
  obtain ⟨n1, e1, _, f1⟩ := DataW.trod_int Tryd.underlying2 t1
  obtain ⟨s, e2, _⟩ := DataW.trod_string Tryd.underlying9 t2
  simp at e0 e1 e2
  subst e0; subst e1; subst e2
  exact ⟨n0, n1, s, d, n, z3, rfl, hn, t3, in64_of_wf f1⟩
theorem open_exs : ∀ (fuel : Nat) (v : Value) (x : DataW H × List MemPlace), DataW.trod enc Tryd.prog w base spare held fuel 51 [v] = some x → ∃ l, ExsIn w l v ∧ Ex.rngs l := by
  intro fuel
  induction fuel using Nat.strongRecOn with
  | _ fuel ih =>
  intro v x h
  obtain ⟨len, cs, hrow, hel⟩ := open_row Tryd.underlying51 cellsExpr (by decide) h
  have hone : ∀ i, ∃ q : Ex × Value, i < len → cs i = [.int .i64 q.1.kind, .int .i64 q.1.n, .string q.1.name, q.2] ∧ ExsIn w q.1.args q.2 ∧ q.1.rng := fun i => by
    by_cases hi : i < len
    · obtain ⟨hl, n, y, hn, hy⟩ := hel i hi
      obtain ⟨k, m, s, u, n2, z, hc, hn2, hz, hm⟩ := open_expr hy hl
      obtain ⟨l, hl2, hlr⟩ := ih n2 (by omega) u z hz
      exact ⟨(.mk k m s l, u), fun _ => ⟨hc, hl2, by rw [Ex.rng_eq]; exact ⟨hm, hlr⟩⟩⟩
    · exact ⟨(.mk 0 0 ⟨#[]⟩ [], .bool false), fun h => absurd h hi⟩
  obtain ⟨E, hE⟩ := Classical.axiomOfChoice hone
  have hg : ∀ i x, ((List.range len).map fun i => (E i).1)[i]? = some x → i < len ∧ x = (E i).1 := fun i x hx => by
    have hi : i < len := by have := (List.getElem?_eq_some_iff.1 hx).1; simpa using this
    simp [hi] at hx
    exact ⟨hi, hx.symm⟩
  refine ⟨(List.range len).map fun i => (E i).1, .mk _ v (fun i => (E i).2) ?_ fun i x hx => ?_, (Ex.rngs_iff _).2 fun x hx => ?_⟩
  · rw [show ((List.range len).map fun i => (E i).1).length = len by simp]
    refine hrow.imp (Nat.le_refl _) fun b o i _ hi hp x hx => ?_
    obtain ⟨_, rfl⟩ := hg i x hx
    have hc := (hE i hi).1
    exact ⟨hp 0 _ (by rw [hc]; rfl), hp 1 _ (by rw [hc]; rfl), hp 2 _ (by rw [hc]; rfl), hp 3 _ (by rw [hc]; rfl)⟩
  · obtain ⟨hi, rfl⟩ := hg i x hx
    exact (hE i hi).2.1
  · obtain ⟨i, hi⟩ := List.getElem?_of_mem hx
    obtain ⟨hi2, rfl⟩ := hg i x hi
    exact (hE i hi2).2.2
/-- A list made place by place. -/
theorem mapRange_get {α : Type} {len i : Nat} {E : Nat → α} {x : α} (hx : ((List.range len).map E)[i]? = some x) : i < len ∧ x = E i := by
  have hi : i < len := by have := (List.getElem?_eq_some_iff.1 hx).1; simpa using this
  simp [hi] at hx
  exact ⟨hi, hx.symm⟩
theorem mapRange_len {α : Type} (len : Nat) (E : Nat → α) : ((List.range len).map E).length = len := by simp
/-- What one statement's cells hold. -/
structure StPack where
  x : St
  va : Value
  vb : Value
  vd : Value
  ve : Value
  vc : Value
  vk : Nat → Value
def StPack.ok (w : World) (q : StPack) (cs : List Value) : Prop :=
  cs = [.int .i64 q.x.kind, .string q.x.name, .int .i64 q.x.n, .int .i64 q.x.a.kind, .int .i64 q.x.a.n, .string q.x.a.name, q.va, .int .i64 q.x.b.kind, .int .i64 q.x.b.n, .string q.x.b.name, q.vb, q.vd, q.ve, q.vc] ∧
  ExsIn w q.x.a.args q.va ∧ ExsIn w q.x.b.args q.vb ∧ StsIn w q.x.body q.vd ∧ StsIn w q.x.els q.ve ∧ RowOf w q.vc q.x.cases.length 2 (fun b o k => ∀ y, q.x.cases[k]? = some y → CsAt w b o y (q.vk k)) ∧ (∀ (k : Nat) y, q.x.cases[k]? = some y → StsIn w y.body (q.vk k)) ∧ q.x.rng
theorem open_sts : ∀ (fuel : Nat) (v : Value) (x : DataW H × List MemPlace), DataW.trod enc Tryd.prog w base spare held fuel 38 [v] = some x → ∃ l, StsIn w l v ∧ St.rngs l := by
  intro fuel
  induction fuel using Nat.strongRecOn with
  | _ fuel ih =>
  intro v x h
  obtain ⟨len, cs, hrow, hel⟩ := open_row Tryd.underlying38 cellsStmt (by decide) h
  have hone : ∀ i, ∃ q : StPack, i < len → q.ok w (cs i) := fun i => by
    by_cases hi : i < len
    · obtain ⟨hl, n, y, hn, hy⟩ := hel i hi
      obtain ⟨a0, a1, a2, a3, a4, a5, a6, a7, a8, a9, a10, a11, a12, a13, hcs⟩ := len14 hl
      rw [hcs] at hy
      obtain ⟨m, hm, hf⟩ := open_cells Tryd.underlying56 hy
      obtain ⟨z0, t0⟩ := hf 0 _ rfl
      obtain ⟨z1, t1⟩ := hf 1 _ rfl
      obtain ⟨z2, t2⟩ := hf 2 _ rfl
      obtain ⟨z3, t3⟩ := hf 3 _ rfl
      obtain ⟨z4, t4⟩ := hf 4 _ rfl
      obtain ⟨z5, t5⟩ := hf 5 _ rfl
      obtain ⟨z6, t6⟩ := hf 6 _ rfl
      obtain ⟨z7, t7⟩ := hf 7 _ rfl
      simp only [List.getElem_toArray, List.getElem_cons_zero, List.getElem_cons_succ, List.drop_zero, List.drop_succ_cons, List.take_succ_cons, List.take_zero, cellsInt, cellsI64', cellsStr, cellsExpr, cellsSts, cellsCss] at t0 t1 t2 t3 t4 t5 t6 t7
      obtain ⟨n0, e0, _⟩ := DataW.trod_int Tryd.underlying3 t0
      obtain ⟨s, e1, _⟩ := DataW.trod_string Tryd.underlying9 t1
      obtain ⟨n2, e2, _, f2⟩ := DataW.trod_int Tryd.underlying2 t2
      obtain ⟨ka, ma, sa, va, na, za, ca, hna, hza, hma⟩ := open_expr t3 rfl
      obtain ⟨kb, mb, sb, vb, nb, zb, cb, hnb, hzb, hmb⟩ := open_expr t4 rfl
      obtain ⟨la, hla, hlar⟩ := open_exs na va za hza
      obtain ⟨lb, hlb, hlbr⟩ := open_exs nb vb zb hzb
      obtain ⟨ld, hld, hldr⟩ := ih m (by omega) a11 z5 t5
      obtain ⟨le, hle, hler⟩ := ih m (by omega) a12 z6 t6
      obtain ⟨lenc, csc, hrowc, helc⟩ := open_row (v := a13) Tryd.underlying54 cellsCase (by decide) t7
      have honec : ∀ k, ∃ q : Cs × Value, k < lenc → csc k = [.int .i64 q.1.n, q.2] ∧ StsIn w q.1.body q.2 ∧ q.1.rng := fun k => by
        by_cases hk : k < lenc
        · obtain ⟨hlc, nc, yc, hnc, hyc⟩ := helc k hk
          obtain ⟨b0, b1, hcc⟩ := len2 hlc
          rw [hcc] at hyc
          obtain ⟨mc, hmc, hfc⟩ := open_cells Tryd.underlying90 hyc
          obtain ⟨u0, q0⟩ := hfc 0 _ rfl
          obtain ⟨u1, q1⟩ := hfc 1 _ rfl
          simp only [List.getElem_toArray, List.getElem_cons_zero, List.getElem_cons_succ, List.drop_zero, List.drop_succ_cons, List.take_succ_cons, List.take_zero, cellsI64', cellsSts] at q0 q1
          obtain ⟨nn, en, _, fn⟩ := DataW.trod_int Tryd.underlying2 q0
          obtain ⟨lk, hlk, hlkr⟩ := ih mc (by omega) b1 u1 q1
          simp at en
          subst en
          exact ⟨(.mk nn lk, b1), fun _ => ⟨hcc, hlk, by rw [Cs.rng_eq]; exact ⟨in64_of_wf fn, hlkr⟩⟩⟩
        · exact ⟨(.mk 0 [], .bool false), fun h => absurd h hk⟩
      obtain ⟨Ec, hEc⟩ := Classical.axiomOfChoice honec
      simp at e0 e1 e2 ca cb
      obtain ⟨rfl, rfl, rfl, rfl⟩ := ca
      obtain ⟨rfl, rfl, rfl, rfl⟩ := cb
      subst e0; subst e1; subst e2
      refine ⟨⟨.mk n0 s n2 (.mk ka ma sa la) (.mk kb mb sb lb) ld le ((List.range lenc).map fun k => (Ec k).1), a6, a10, a11, a12, a13, fun k => (Ec k).2⟩, fun _ => ⟨hcs, hla, hlb, hld, hle, ?_, fun k y hy => ?_, ?_⟩⟩
      · show RowOf w a13 ((List.range lenc).map fun k => (Ec k).1).length 2 (fun b o k => ∀ y, ((List.range lenc).map fun k => (Ec k).1)[k]? = some y → CsAt w b o y (Ec k).2)
        rw [mapRange_len]
        refine hrowc.imp (Nat.le_refl _) fun b o k _ hk hp y hy => ?_
        obtain ⟨_, rfl⟩ := mapRange_get hy
        have hc := (hEc k hk).1
        exact ⟨hp 0 _ (by rw [hc]; rfl), hp 1 _ (by rw [hc]; rfl)⟩
      · obtain ⟨hk, rfl⟩ := mapRange_get hy
        exact (hEc k hk).2.1
      · rw [St.rng_eq]
        refine ⟨in64_of_wf f2, (Ex.rng_eq _).2 ⟨hma, hlar⟩, (Ex.rng_eq _).2 ⟨hmb, hlbr⟩, hldr, hler, (Cs.rngs_iff _).2 fun y hy => ?_⟩
        obtain ⟨k, hk⟩ := List.getElem?_of_mem hy
        obtain ⟨hk2, rfl⟩ := mapRange_get hk
        exact (hEc k hk2).2.2
    · exact ⟨⟨.mk 0 ⟨#[]⟩ 0 (.mk 0 0 ⟨#[]⟩ []) (.mk 0 0 ⟨#[]⟩ []) [] [] [], .bool false, .bool false, .bool false, .bool false, .bool false, fun _ => .bool false⟩, fun h => absurd h hi⟩
  obtain ⟨E, hE⟩ := Classical.axiomOfChoice hone
  refine ⟨(List.range len).map fun i => (E i).x, .mk _ v (fun i => (E i).va) (fun i => (E i).vb) (fun i => (E i).vd) (fun i => (E i).ve) (fun i => (E i).vc) (fun i => (E i).vk) ?_ (fun i x hx => ?_) (fun i x hx => ?_) (fun i x hx => ?_) (fun i x hx => ?_) (fun i x hx => ?_) (fun i x k y hx hy => ?_), (St.rngs_iff _).2 fun x hx => ?_⟩
  case refine_8 =>
    obtain ⟨i, hi⟩ := List.getElem?_of_mem hx
    obtain ⟨hi2, rfl⟩ := mapRange_get hi
    exact (hE i hi2).2.2.2.2.2.2.2
  · rw [mapRange_len]
    refine hrow.imp (Nat.le_refl _) fun b o i _ hi hp x hx => ?_
    obtain ⟨_, rfl⟩ := mapRange_get hx
    have hc := (hE i hi).1
    exact ⟨hp 0 _ (by rw [hc]; rfl), hp 1 _ (by rw [hc]; rfl), hp 2 _ (by rw [hc]; rfl), hp 3 _ (by rw [hc]; rfl), hp 4 _ (by rw [hc]; rfl), hp 5 _ (by rw [hc]; rfl), hp 6 _ (by rw [hc]; rfl), hp 7 _ (by rw [hc]; rfl), hp 8 _ (by rw [hc]; rfl), hp 9 _ (by rw [hc]; rfl), hp 10 _ (by rw [hc]; rfl), hp 11 _ (by rw [hc]; rfl), hp 12 _ (by rw [hc]; rfl), hp 13 _ (by rw [hc]; rfl)⟩
  all_goals obtain ⟨hi, rfl⟩ := mapRange_get hx
  · exact (hE i hi).2.1
  · exact (hE i hi).2.2.1
  · exact (hE i hi).2.2.2.1
  · exact (hE i hi).2.2.2.2.1
  · exact (hE i hi).2.2.2.2.2.1
  · exact (hE i hi).2.2.2.2.2.2.1 k y hy
theorem open_params {fuel : Nat} {v : Value} {x : DataW H × List MemPlace} (h : DataW.trod enc Tryd.prog w base spare held fuel 37 [v] = some x) : ∃ l : List Pm, RowOf w v l.length 3 (fun b o k => ∀ y, l[k]? = some y → PmAt w b o y) ∧ ∀ x ∈ l, in64 x.lo ∧ in64 x.hi := by
  obtain ⟨len, cs, hrow, hel⟩ := open_row Tryd.underlying37 cellsParam (by decide) h
  have hone : ∀ i, ∃ q : Pm, i < len → cs i = [.string q.name, .int .i64 q.lo, .int .i64 q.hi] ∧ in64 q.lo ∧ in64 q.hi := fun i => by
    by_cases hi : i < len
    · obtain ⟨hl, n, y, hn, hy⟩ := hel i hi
      obtain ⟨b0, b1, b2, hcc⟩ := len3 hl
      rw [hcc] at hy
      obtain ⟨m, hm, hf⟩ := open_cells Tryd.underlying49 hy
      obtain ⟨u0, q0⟩ := hf 0 _ rfl
      obtain ⟨u1, q1⟩ := hf 1 _ rfl
      obtain ⟨u2, q2⟩ := hf 2 _ rfl
      simp only [List.getElem_toArray, List.getElem_cons_zero, List.getElem_cons_succ, List.drop_zero, List.drop_succ_cons, List.take_succ_cons, List.take_zero, cellsI64', cellsStr] at q0 q1 q2
      obtain ⟨s, e0, _⟩ := DataW.trod_string Tryd.underlying9 q0
      obtain ⟨n1, e1, _, f1⟩ := DataW.trod_int Tryd.underlying2 q1
      obtain ⟨n2, e2, _, f2⟩ := DataW.trod_int Tryd.underlying2 q2
      simp at e0 e1 e2
      subst e0; subst e1; subst e2
      exact ⟨⟨s, n1, n2⟩, fun _ => ⟨hcc, in64_of_wf f1, in64_of_wf f2⟩⟩
    · exact ⟨⟨⟨#[]⟩, 0, 0⟩, fun h => absurd h hi⟩
  obtain ⟨E, hE⟩ := Classical.axiomOfChoice hone
  refine ⟨(List.range len).map E, ?_, fun x hx => by
    obtain ⟨i, hi⟩ := List.getElem?_of_mem hx
    obtain ⟨hi2, rfl⟩ := mapRange_get hi
    exact (hE i hi2).2⟩
  rw [mapRange_len]
  refine hrow.imp (Nat.le_refl _) fun b o i _ hi hp x hx => ?_
  obtain ⟨_, rfl⟩ := mapRange_get hx
  have hc := (hE i hi).1
  exact ⟨hp 0 _ (by rw [hc]; rfl), hp 1 _ (by rw [hc]; rfl), hp 2 _ (by rw [hc]; rfl)⟩
theorem open_i64row {fuel : Nat} {v : Value} {x : DataW H × List MemPlace} (h : DataW.trod enc Tryd.prog w base spare held fuel 22 [v] = some x) : ∃ l : List Int, IntsIn w v l := by
  obtain ⟨len, cs, hrow, hel⟩ := open_row Tryd.underlying22 cellsI64' (by decide) h
  have hone : ∀ i, ∃ q : Int, i < len → cs i = [.int .i64 q] := fun i => by
    by_cases hi : i < len
    · obtain ⟨hl, n, y, hn, hy⟩ := hel i hi
      obtain ⟨n1, e1, _⟩ := DataW.trod_int Tryd.underlying2 hy
      exact ⟨n1, fun _ => e1⟩
    · exact ⟨0, fun h => absurd h hi⟩
  obtain ⟨E, hE⟩ := Classical.axiomOfChoice hone
  refine ⟨(List.range len).map E, ?_⟩
  obtain ⟨a, cap, rfl, h1, h2, h3, h4⟩ := hrow
  refine ⟨by simp [intVs], a, cap, by rw [mapRange_len], by rw [mapRange_len]; exact h1, h2, h3, fun h0 => ?_⟩
  obtain ⟨b, off, e, hb, hp⟩ := h4 (by rw [mapRange_len] at h0; exact h0)
  refine ⟨b, off, e, hb, fun j u hu => ?_⟩
  unfold intVs at hu
  rw [List.getElem?_map] at hu
  obtain ⟨x, hx, rfl⟩ := Option.map_eq_some_iff.1 hu
  obtain ⟨hj, rfl⟩ := mapRange_get hx
  have := hp j hj 0 _ (by rw [hE j hj]; rfl)
  simpa using this
structure FnPack where
  x : Fn
  vp : Value
  vb : Value
theorem open_fns {fuel : Nat} {v : Value} {x : DataW H × List MemPlace} (h : DataW.trod enc Tryd.prog w base spare held fuel 23 [v] = some x) : ∃ (l : List Fn) (vp vb : Nat → Value), FnsIn w l v vp vb ∧ ∀ f ∈ l, St.rngs f.body ∧ ∀ x ∈ f.params, in64 x.lo ∧ in64 x.hi := by
  obtain ⟨len, cs, hrow, hel⟩ := open_row Tryd.underlying23 cellsFn (by decide) h
  have hone : ∀ i, ∃ q : FnPack, i < len → cs i = [.string q.x.name, q.vp, q.vb] ∧ RowOf w q.vp q.x.params.length 3 (fun b o k => ∀ y, q.x.params[k]? = some y → PmAt w b o y) ∧ StsIn w q.x.body q.vb ∧ St.rngs q.x.body ∧ ∀ x ∈ q.x.params, in64 x.lo ∧ in64 x.hi := fun i => by
    by_cases hi : i < len
    · obtain ⟨hl, n, y, hn, hy⟩ := hel i hi
      obtain ⟨b0, b1, b2, hcc⟩ := len3 hl
      rw [hcc] at hy
      obtain ⟨m, hm, hf⟩ := open_cells Tryd.underlying40 hy
      obtain ⟨u0, q0⟩ := hf 0 _ rfl
      obtain ⟨u1, q1⟩ := hf 1 _ rfl
      obtain ⟨u2, q2⟩ := hf 2 _ rfl
      simp only [List.getElem_toArray, List.getElem_cons_zero, List.getElem_cons_succ, List.drop_zero, List.drop_succ_cons, List.take_succ_cons, List.take_zero, cellsStr, cellsPms, cellsSts] at q0 q1 q2
      obtain ⟨s, e0, _⟩ := DataW.trod_string Tryd.underlying9 q0
      obtain ⟨lp, hlp, hlpr⟩ := open_params (v := b1) q1
      obtain ⟨lb, hlb, hlbr⟩ := open_sts m b2 u2 q2
      simp at e0
      subst e0
      exact ⟨⟨⟨s, lp, lb⟩, b1, b2⟩, fun _ => ⟨hcc, hlp, hlb, hlbr, hlpr⟩⟩
    · exact ⟨⟨⟨⟨#[]⟩, [], []⟩, .bool false, .bool false⟩, fun h => absurd h hi⟩
  obtain ⟨E, hE⟩ := Classical.axiomOfChoice hone
  refine ⟨(List.range len).map fun i => (E i).x, fun i => (E i).vp, fun i => (E i).vb, ⟨?_, fun i x hx => ?_, fun i x hx => ?_⟩, fun x hx => by
    obtain ⟨i, hi⟩ := List.getElem?_of_mem hx
    obtain ⟨hi2, rfl⟩ := mapRange_get hi
    exact (hE i hi2).2.2.2⟩
  · rw [mapRange_len]
    refine hrow.imp (Nat.le_refl _) fun b o i _ hi hp x hx => ?_
    obtain ⟨_, rfl⟩ := mapRange_get hx
    have hc := (hE i hi).1
    exact ⟨hp 0 _ (by rw [hc]; rfl), hp 1 _ (by rw [hc]; rfl), hp 2 _ (by rw [hc]; rfl)⟩
  · obtain ⟨hi, rfl⟩ := mapRange_get hx
    exact (hE i hi).2.1
  · obtain ⟨hi, rfl⟩ := mapRange_get hx
    exact (hE i hi).2.2.1
set_option maxRecDepth 100000 in
theorem open_program {r : Reach} {b0 : Nat} {v : Value} {d : DataW H} {p : List MemPlace} (hv : Value.okWide Tryd.prog w r b0 25 v) (h : DataW.Trod enc Tryd.prog w base spare held 25 v d p) :
    ∃ (pg : Pg) (vw vf : Value) (vp vb : Nat → Value), v = pgV vw vf ∧ PgIn w pg vw vf vp vb ∧ pg.rng := by
  obtain ⟨v0, v1, y0, y1, n, rfl, _, _, t0, t1⟩ := open_pair Tryd.underlying25 (by kernel_rfl) (by kernel_rfl) hv h
  obtain ⟨lw, hlw⟩ := open_i64row t0
  obtain ⟨lf, vp, vb, hlf, hrg⟩ := open_fns t1
  exact ⟨⟨lw, lf⟩, v0, v1, vp, vb, rfl, ⟨hlw, hlf⟩, hrg⟩
end
end Go.Proofs.YtgobcldecokppaaDoor

namespace Go.Proofs.YtgobcldecokppaaDoor
open Go.Joins Go.ChangeShapes Go.WideShapes Go.ChangeAt Go.RowKit Go.Deep

theorem Tryd.own : ownKnob Tryd.prog.godebug = none := by kernel_rfl
theorem Tryd.laidOut : laidOutB Tryd.prog = true := by kernel_rfl

section
variable {H : Type} {enc : TypeId × Value → H}

theorem trodAll_stays {W W' : World} {sp : Nat → Bool} : ∀ {ts : List TypeId} {vs : List Value} {ds : List (DataW H)} {ps : List MemPlace}, (∀ t ∈ ts, Tryd.prog.readableRec t = true ∧ t < Tryd.prog.types.size) →
    DataW.TrodAll enc Tryd.prog W 0 (fun _ => true) true ts vs ds ps → Below W.heap.size W W' → (∀ x ∈ ps, x.block < W.heap.size) → (∀ x ∈ ps, sp x.block = true) → DataW.TrodAll enc Tryd.prog W' 0 sp true ts vs ds ps
  | [], [], [], ps, _, h, _, _, _ => h
  | [], [], _ :: _, ps, _, h, _, _, _ => h.elim
  | [], _ :: _, _, ps, _, h, _, _, _ => h.elim
  | _ :: _, [], _, ps, _, h, _, _, _ => h.elim
  | _ :: _, _ :: _, [], ps, _, h, _, _, _ => h.elim
  | t :: ts, v :: vs, d :: ds, ps, hr, h, hb, hlt, hsp => by
    obtain ⟨p, q, h1, h2, rfl⟩ := h
    exact ⟨p, q, WideElems.Trod_stays Tryd.laidOut (hr t (by simp)).1 (hr t (by simp)).2 h1 (fun x hx => hb.same (hlt x (List.mem_append_left _ hx))) (fun x hx => hsp x (List.mem_append_left _ hx)),
      trodAll_stays (fun t ht => hr t (by simp [ht])) h2 hb (fun x hx => hlt x (List.mem_append_right _ hx)) (fun x hx => hsp x (List.mem_append_right _ hx)), rfl⟩

/-- All the argument types of these laws read. -/
theorem reads_types : ∀ t ∈ [25, 3], Tryd.prog.readableRec t = true ∧ t < Tryd.prog.types.size := by
  intro t ht
  simp only [List.mem_cons, List.not_mem_nil, or_false] at ht
  rcases ht with rfl | rfl
  · exact ⟨by kernel_rfl, of_decide_eq_true (by kernel_rfl)⟩
  · exact ⟨by kernel_rfl, of_decide_eq_true (by kernel_rfl)⟩

theorem post_true {fn : Func} {s : ChangeSpec} {W W' : World} {args : Array Value} {ds gs : List (DataW H)} {before : List MemPlace} (hvars : s.vars = []) (hts : ∀ t ∈ fn.params.toList, t ∈ [25, 3]) (hres : fn.resultTypes = #[4])
    (hspec : (s.fn H (ds ++ gs)).results = [.lit (.bool true)] ∧ (s.fn H (ds ++ gs)).args = ds ∧ (s.fn H (ds ++ gs)).vars = [])
    (hW : DataW.Whole enc Tryd.prog fn.params.toList s.vars false W args.toList ds gs before) (hb : Below W.heap.size W W') : s.post enc Tryd.prog fn false true false false W args (.bool true) W' := by
  have hlt : ∀ p ∈ before, p.block < W.heap.size := fun p hp => by simpa using hW.lt p hp
  have hW0 := hW
  obtain ⟨p, q, hA, hV, rfl, _, _⟩ := hW0
  rw [hvars] at hV
  obtain ⟨rfl, rfl⟩ := trodVars_none hV
  refine ⟨ds, [], p ++ [], [], p, [], hW, ?_, ?_, ?_, hb.frame _, fun h => by cases h⟩
  · rw [hspec.1, hres]
    exact trodAll_mk1 (shut_bool Tryd.underlying4 true)
  · rw [hspec.2.1]
    exact trodAll_stays (fun t ht => reads_types t (hts t ht)) hA hb (fun x hx => hlt x (by simpa using hx)) (fun x hx => by simpa using hlt x (by simpa using hx))
  · rw [hspec.2.2, hvars]
    rfl
end

set_option maxRecDepth 100000 in
/-- A law over nothing. -/
theorem lift_none {n : FuncId} {fn : Func} {s : ChangeSpec} {conds : List PathCond} {os : Os} {H : Type} {enc : TypeId × Value → H} (started : os.Started) (noInit : Tryd.checked.prog.inits.idxOf? n = none) (hfn : Tryd.checked.prog.funcs[n]? = some fn)
    (hp : fn.params.toList = []) (hres : fn.resultTypes = #[4]) (hvars : s.vars = []) (hspec : s.fn H [] = { results := [.lit (.bool true)], args := [] })
    (witness : ∃ (w : World) (tape : Tape) (i : Input), w.os = os ∧ (w.forCall tape i).Shaped Tryd.checked.prog ∧ i.vars = [] ∧ Input.okWide Tryd.checked.prog (w.forCall tape i) .any w.heap.size n i ∧
      s.pre6 enc Tryd.checked.prog fn conds false (w.forCall tape i).memory i.args ∧ ({} : Assume).holds Tryd.checked.prog (lone (Frame.enter Tryd.checked.prog n i.args .normal) [] (w.forCall tape i)))
    (walk : ∀ (W : World), Calls Tryd.prog n #[] W (Gives (.bool true) W)) :
    ReturnsInHanded {} Tryd.checked os n .any (s.pre6 enc Tryd.prog fn conds false) (s.post enc Tryd.prog fn false true false false) := by
  refine returnsInHanded_of_change_sized (C := Tryd.checked) Tryd.own started noInit hfn witness ?_
  intro W base args ds gs before _ hW _ _ _
  have hW' := hW
  obtain ⟨p, q, hA0, hV, rfl, _, _⟩ := hW
  have hA : DataW.TrodAll enc Tryd.prog W 0 (fun _ => true) true fn.params.toList args.toList ds p := hA0
  rw [hp] at hA
  have hnil : args = #[] ∧ ds = [] := by
    obtain ⟨l⟩ := args
    match l, ds, hA with
    | [], [], _ => exact ⟨rfl, rfl⟩
    | [], _ :: _, h => exact h.elim
    | _ :: _, _, h => exact h.elim
  obtain ⟨rfl, rfl⟩ := hnil
  rw [hvars] at hV
  obtain ⟨rfl, rfl⟩ := trodVars_none hV
  refine (walk W).mono fun e W' ⟨he, hb⟩ => ?_
  exact ⟨_, he, post_true hvars (by rw [hp]; simp) hres (by rw [List.append_nil, hspec]; exact ⟨rfl, rfl, rfl⟩) hW' hb⟩

set_option maxRecDepth 100000 in
/-- A law over one api.Program. -/
theorem lift_prog {n : FuncId} {fn : Func} {s : ChangeSpec} {conds : List PathCond} {os : Os} {H : Type} {enc : TypeId × Value → H} (started : os.Started) (noInit : Tryd.checked.prog.inits.idxOf? n = none) (hfn : Tryd.checked.prog.funcs[n]? = some fn)
    (hp : fn.params.toList = [25]) (hres : fn.resultTypes = #[4]) (hvars : s.vars = []) (hspec : ∀ d : DataW H, s.fn H [d] = { results := [.lit (.bool true)], args := [d] })
    (witness : ∃ (w : World) (tape : Tape) (i : Input), w.os = os ∧ (w.forCall tape i).Shaped Tryd.checked.prog ∧ i.vars = [] ∧ Input.okWide Tryd.checked.prog (w.forCall tape i) .any w.heap.size n i ∧
      s.pre6 enc Tryd.checked.prog fn conds false (w.forCall tape i).memory i.args ∧ ({} : Assume).holds Tryd.checked.prog (lone (Frame.enter Tryd.checked.prog n i.args .normal) [] (w.forCall tape i)))
    (walk : ∀ (W : World) (p : Pg) (vw vf : Value) (vp vb : Nat → Value), PgIn W p vw vf vp vb → Calls Tryd.prog n #[pgV vw vf] W (Gives (.bool true) W)) :
    ReturnsInHanded {} Tryd.checked os n .any (s.pre6 enc Tryd.prog fn conds false) (s.post enc Tryd.prog fn false true false false) := by
  refine returnsInHanded_of_change_sized (C := Tryd.checked) Tryd.own started noInit hfn witness ?_
  intro W base args ds gs before hval0 hW _ _ _
  have hval : ∀ (j : Nat) t v, fn.params[j]? = some t → args[j]? = some v → Value.okWide Tryd.prog W .any base t v := hval0
  clear hval0
  have hW' := hW
  obtain ⟨p, q, hA0, hV, rfl, _, _⟩ := hW
  have hA : DataW.TrodAll enc Tryd.prog W 0 (fun _ => true) true fn.params.toList args.toList ds p := hA0
  rw [hp] at hA
  obtain ⟨v0, d0, rfl, rfl, h0⟩ := trodAll_one hA
  rw [hvars] at hV
  obtain ⟨rfl, rfl⟩ := trodVars_none hV
  have hp0 : fn.params[0]? = some 25 := by rw [← Array.getElem?_toList, hp]; rfl
  obtain ⟨pg, vw, vf, vp, vb, rfl, hpg, _⟩ := open_program (hval 0 _ v0 hp0 rfl) h0
  refine (walk W pg vw vf vp vb hpg).mono fun e W' ⟨he, hb⟩ => ?_
  exact ⟨_, he, post_true hvars (by rw [hp]; simp) hres (by rw [List.append_nil, hspec]; exact ⟨rfl, rfl, rfl⟩) hW' hb⟩

set_option maxRecDepth 100000 in
/-- A law over one api.Program and an int. -/
theorem lift_prog_int {n : FuncId} {fn : Func} {s : ChangeSpec} {conds : List PathCond} {os : Os} {H : Type} {enc : TypeId × Value → H} (started : os.Started) (noInit : Tryd.checked.prog.inits.idxOf? n = none) (hfn : Tryd.checked.prog.funcs[n]? = some fn)
    (hp : fn.params.toList = [25, 3]) (hres : fn.resultTypes = #[4]) (hvars : s.vars = []) (hspec : ∀ d1 d2 : DataW H, s.fn H [d1, d2] = { results := [.lit (.bool true)], args := [d1, d2] })
    (witness : ∃ (w : World) (tape : Tape) (i : Input), w.os = os ∧ (w.forCall tape i).Shaped Tryd.checked.prog ∧ i.vars = [] ∧ Input.okWide Tryd.checked.prog (w.forCall tape i) .any w.heap.size n i ∧
      s.pre6 enc Tryd.checked.prog fn conds false (w.forCall tape i).memory i.args ∧ ({} : Assume).holds Tryd.checked.prog (lone (Frame.enter Tryd.checked.prog n i.args .normal) [] (w.forCall tape i)))
    (walk : ∀ (W : World) (p : Pg) (vw vf : Value) (vp vb : Nat → Value) (k : Int), PgIn W p vw vf vp vb → (Lit.int .i64 k).wf = true → Calls Tryd.prog n #[pgV vw vf, .int .i64 k] W (Gives (.bool true) W)) :
    ReturnsInHanded {} Tryd.checked os n .any (s.pre6 enc Tryd.prog fn conds false) (s.post enc Tryd.prog fn false true false false) := by
  refine returnsInHanded_of_change_sized (C := Tryd.checked) Tryd.own started noInit hfn witness ?_
  intro W base args ds gs before hval0 hW _ _ _
  have hval : ∀ (j : Nat) t v, fn.params[j]? = some t → args[j]? = some v → Value.okWide Tryd.prog W .any base t v := hval0
  clear hval0
  have hW' := hW
  obtain ⟨p, q, hA0, hV, rfl, _, _⟩ := hW
  have hA : DataW.TrodAll enc Tryd.prog W 0 (fun _ => true) true fn.params.toList args.toList ds p := hA0
  rw [hp] at hA
  obtain ⟨v0, v1, d0, d1, p0, p1, rfl, rfl, rfl, h0, h1⟩ := trodAll_two hA
  rw [hvars] at hV
  obtain ⟨rfl, rfl⟩ := trodVars_none hV
  have hp0 : fn.params[0]? = some 25 := by rw [← Array.getElem?_toList, hp]; rfl
  have hp1 : fn.params[1]? = some 3 := by rw [← Array.getElem?_toList, hp]; rfl
  obtain ⟨pg, vw, vf, vp, vb, rfl, hpg, _⟩ := open_program (hval 0 _ v0 hp0 rfl) h0
  obtain ⟨k, rfl, rfl, rfl, wk⟩ := open_int Tryd.underlying3 (hval 1 _ v1 hp1 rfl) h1
  refine (walk W pg vw vf vp vb k hpg wk).mono fun e W' ⟨he, hb⟩ => ?_
  exact ⟨_, he, post_true hvars (by rw [hp]; simp) hres (by rw [List.append_nil, hspec]; exact ⟨rfl, rfl, rfl⟩) hW' hb⟩
end Go.Proofs.YtgobcldecokppaaDoor
