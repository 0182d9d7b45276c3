/- names: a program with one function's body exchanged: the plain part. -/
import Derived.Test.YtgcplcffejbniaaNmCut
import Derived.Test.YtgcplcffejbniaaNmSorted
import Derived.Test.YtgcplcffejbniaaTrBig
namespace Go.Proofs.Ytgcplcffejbniaa
open Go.RowKit Go.Maps

def Fn.withBody (f : Fn) (b : List St) : Fn := ⟨f.name, f.params, b⟩
/-- Function n's body is b. -/
def Pg.withBody (p : Pg) (n : Nat) (b : List St) : Pg := ⟨p.widen, p.funcs.modify n (·.withBody b)⟩
theorem Pg.withBody_len (p : Pg) (n : Nat) (b : List St) : (p.withBody n b).funcs.length = p.funcs.length := by simp [Pg.withBody]
theorem Pg.withBody_at {p : Pg} {n : Nat} {f : Fn} (h : p.funcs[n]? = some f) (b : List St) : (p.withBody n b).funcs[n]? = some (f.withBody b) := by simp [Pg.withBody, h]
theorem Pg.withBody_ne (p : Pg) {n j : Nat} (h : j ≠ n) (b : List St) : (p.withBody n b).funcs[j]? = p.funcs[j]? := by
  simp only [Pg.withBody, List.getElem?_modify]
  cases p.funcs[j]? with
  | none => rfl
  | some x => simp [show ¬ n = j from fun e => h e.symm]
theorem Pg.withBody_names (p : Pg) (n : Nat) (b : List St) (i : Nat) : gAt (p.withBody n b).funcs i = gAt p.funcs i := by
  unfold gAt
  refine List.ext_getElem? fun j => ?_
  simp only [List.getElem?_map, List.getElem?_take, Pg.withBody, List.getElem?_modify]
  by_cases hj : j < i
  · simp only [hj, if_true]
    cases p.funcs[j]? with
    | none => simp
    | some x =>
      by_cases e : n = j
      · simp [e, Fn.withBody]
      · simp [e]
  · simp [hj]
/-- A program whose form is right is small. -/
theorem Pg.small_of {p : Pg} (h : p.fault.1 = 0) : p.small := by
  obtain ⟨h1, h2⟩ := Pg.good h
  refine ⟨?_, by omega, fun f hf => ?_⟩
  · unfold Pg.fault at h
    by_cases h0 : p.headErr = 0
    · unfold Pg.headErr at h0
      split at h0
      · omega
      · omega
    · rw [if_pos h0] at h; exact absurd h h0
  · obtain ⟨i, hi⟩ := List.getElem?_of_mem hf
    have g := h2 i f hi
    exact ⟨by have := g.few; omega, by have := g.total; omega⟩
theorem RowOf.blocks {w w' : World} {a : Option Addr} {n m cap size : Nat} {P Q : Nat → Nat → Nat → Prop} (h : RowOf w (.slice a m cap) n size P) (hs : w.heap.size ≤ w'.heap.size) (hp : ∀ b off, a = some ⟨b, off, none⟩ → b < w.heap.size → ∀ i, i < n → P b (off + i * size) i → Q b (off + i * size) i) : RowOf w' (.slice a m cap) n size Q := by
  obtain ⟨a', cap', h1, h2, h3, h4, h5⟩ := h
  refine ⟨a', cap', h1, h2, h3, h4, fun h0 => ?_⟩
  obtain ⟨b, off, e, hb, h6⟩ := h5 h0
  cases h1
  exact ⟨b, off, e, by omega, fun i hi => hp b off e hb i hi (h6 i hi)⟩
/-- The world is as it was in [lo, size), but for one place in the block of the functions. -/
structure Turned (w w' : World) (lo g o : Nat) : Prop where
  size : w.heap.size ≤ w'.heap.size
  block : ∀ k, lo ≤ k → k < w.heap.size → k ≠ g → w'.heap[k]? = w.heap[k]?
  cell : ∀ j u, j ≠ o → w.cell? ⟨g, j, none⟩ = some u → w'.cell? ⟨g, j, none⟩ = some u
theorem OwnPg.turned {w w' : World} {lo mid : Nat} {p : Pg} {gw cw g cap : Nat} {vp vb : Nat → Value} {q m0 m1 gp cp : Nat → Nat} (h : OwnPg w lo mid p gw cw g cap vp vb q m0 m1 gp cp) {n : Nat} {f : Fn} (hf : p.funcs[n]? = some f)
    (ht : Turned w w' lo g (n * 3 + 2)) {b : List St} {v : Value} (hc : w'.cell? ⟨g, n * 3 + 2, none⟩ = some v) (hb : StsIn w' b v) :
    PgIn w' (p.withBody n b) (.slice (some ⟨gw, 0, none⟩) p.widen.length cw) (.slice (some ⟨g, 0, none⟩) p.funcs.length cap) vp (setAt vb n v) := by
  have hr := h.reads
  have hg := h.fns.hg
  have hn := (List.getElem?_eq_some_iff.1 hf).1
  have cc : ∀ b j, lo ≤ b → b < w.heap.size → b ≠ g → w'.cell? ⟨b, j, none⟩ = w.cell? ⟨b, j, none⟩ := fun b j h1 h2 h3 => World.cell?_of_block (ht.block b h1 h2 h3)
  have P : ∀ (j : Nat) x, p.funcs[j]? = some x → OwnFn w' x (vp j) (vb j) (q j) (m0 j) (m1 j) (gp j) (cp j) := fun j x hx => by
    have hj := (List.getElem?_eq_some_iff.1 hx).1
    obtain ⟨r1, r3, r4⟩ := h.fns.rng j hj
    have o := (h.fns.each j x hj hx).ord
    exact (h.fns.each j x hj hx).apart (by have := ht.size; omega) fun k k1 k2 => ht.block k (by have := h.hw; omega) (by omega) fun e => r4 (by omega)
  have wid : IntsIn w' (.slice (some ⟨gw, 0, none⟩) p.widen.length cw) p.widen := by
    have hw := h.hw
    exact ownsRow_take (ownsRow_at h.widen (ht.block gw hw.1 (by omega) (by omega))) (by simp [intVs])
  have at' : ∀ (i : Nat) x, (p.withBody n b).funcs[i]? = some x → (i = n ∧ x = f.withBody b) ∨ (i ≠ n ∧ p.funcs[i]? = some x) := fun i x hx => by
    by_cases e : i = n
    · subst e; rw [Pg.withBody_at hf b] at hx; cases hx; exact .inl ⟨rfl, rfl⟩
    · rw [Pg.withBody_ne p e b] at hx; exact .inr ⟨e, hx⟩
  refine ⟨wid, ?_, fun i x hx => ?_, fun i x hx => ?_⟩
  · rw [Pg.withBody_len]
    refine hr.funcs.row.blocks ht.size fun b0 off e hb0 i hi hp x hx => ?_
    cases e
    rcases at' i x hx with ⟨rfl, rfl⟩ | ⟨hne, hx⟩
    · have k := hp f hf
      have k0 := ht.cell _ _ (by omega) k.c0
      have k1 := ht.cell _ _ (by omega) k.c1
      refine ⟨k0, k1, ?_⟩
      rw [setAt_same, Nat.zero_add]
      exact hc
    · have k := hp x hx
      rw [setAt_other _ _ _ hne]
      exact ⟨ht.cell _ _ (by omega) k.c0, ht.cell _ _ (by omega) k.c1, ht.cell _ _ (by omega) k.c2⟩
  · rcases at' i x hx with ⟨rfl, rfl⟩ | ⟨hne, hx⟩
    · exact (P i f hf).reads.1
    · exact (P i x hx).reads.1
  · rcases at' i x hx with ⟨rfl, rfl⟩ | ⟨hne, hx⟩
    · rw [setAt_same]; exact hb
    · rw [setAt_other _ _ _ hne]; exact (P i x hx).reads.2
/-- Where a function's own faults turn in one way alone, the program's do. -/
theorem Pg.nfault_with {p : Pg} {n : Nat} {f : Fn} (hf : p.funcs[n]? = some f) (b : List St) (T : Flt → Flt) (hT0 : T (0, 0, 0) = (0, 0, 0)) (hTn : ∀ t : Flt, t.2.1 ≠ (n : Int) → T t = t) (hTe : ∀ t : Flt, (T t).1 = t.1) (h1 : p.fault.1 = 0) (h2 : (p.withBody n b).fault.1 = 0)
    (hs : (f.withBody b).nfault (gAt p.funcs n) n = T (f.nfault (gAt p.funcs n) n)) : (p.withBody n b).nfault = T p.nfault := by
  rw [Pg.nfault_ok h1, Pg.nfault_ok h2]
  have each : ∀ (j : Nat) y, (p.withBody n b).funcs[j]? = some y → ∃ z, p.funcs[j]? = some z ∧ y.nfault ([] ++ gAt (p.withBody n b).funcs j) (0 + j) = (if j = n then T (z.nfault ([] ++ gAt p.funcs j) (0 + j)) else z.nfault ([] ++ gAt p.funcs j) (0 + j)) := fun j y hy => by
    rw [Pg.withBody_names]
    by_cases e : j = n
    · subst e
      rw [Pg.withBody_at hf b] at hy
      cases hy
      exact ⟨f, hf, by simpa using hs⟩
    · rw [Pg.withBody_ne p e b] at hy
      exact ⟨y, hy, by rw [if_neg e]⟩
  have e1 : ∀ (j : Nat) y z, (p.withBody n b).funcs[j]? = some y → p.funcs[j]? = some z → (y.nfault ([] ++ gAt (p.withBody n b).funcs j) (0 + j)).1 = (z.nfault ([] ++ gAt p.funcs j) (0 + j)).1 := fun j y z hy hz => by
    obtain ⟨z', hz', e⟩ := each j y hy
    rw [hz] at hz'
    cases hz'
    rw [e]
    split
    · exact hTe _
    · rfl
  rcases Fn.nfaults_cases p.funcs [] 0 with h | ⟨i, x, hx, h0, hz⟩
  · rw [Fn.nfaults_none h, hT0]
    refine Fn.nfaults_none fun j y hy => ?_
    obtain ⟨z, hz, _⟩ := each j y hy
    rw [e1 j y z hy hz]
    exact h j z hz
  · rw [Fn.nfaults_hit hx h0 hz]
    obtain ⟨y, hy⟩ : ∃ y, (p.withBody n b).funcs[i]? = some y := ⟨_, List.getElem?_eq_getElem (by rw [Pg.withBody_len]; exact (List.getElem?_eq_some_iff.1 hx).1)⟩
    obtain ⟨z, hz', e⟩ := each i y hy
    rw [hx] at hz'
    cases hz'
    rw [Fn.nfaults_hit hy (fun j y' hj hy' => by
      obtain ⟨z', hz', _⟩ := each j y' hy'
      rw [e1 j y' z' hy' hz']
      exact h0 j z' hj hz') (by rw [e1 i y x hy hx]; exact hz), e]
    split
    · rfl
    · rename_i hne
      refine (hTn _ ?_).symm
      rw [Fn.nfault_at _ _ _ hz]
      omega
end Go.Proofs.Ytgcplcffejbniaa
