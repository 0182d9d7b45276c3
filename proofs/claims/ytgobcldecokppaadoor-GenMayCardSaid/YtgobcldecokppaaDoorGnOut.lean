/- gen: a maker behind a list of statements, as plain laws; what a list's own blocks leave of a maker. -/
import Derived.Test.YtgobcldecokppaaDoorGnList
namespace Go.Proofs.YtgobcldecokppaaDoor
open Go.RowKit Go.Maps

def GS.out (s : GS) (o : GOut) : GS := { code := s.code ++ o.code, V := o.V, regs := regsOf s.regs o.code, words := o.words, pats := s.pats ++ o.brk }
theorem gns_nil (F : ByteArray → Int) (s : GS) (n : Int) (ns : List ByteArray) (p : Nat) : s.out (St.gns F [] s.V s.words p n ns) = { s with V := s.V.del ns } := by
  simp [GS.out, St.gns, regsOf]
theorem gns_let {F : ByteArray → Int} {x : St} {l : List St} (hk : x.kind = 1) (s : GS) (n : Int) (ns : List ByteArray) :
    s.out (St.gns F (x :: l) s.V s.words s.code.length n ns) = GS.out { s.add (x.a.gn s.V F s.code.length n) with V := s.V.put x.name ⟨n, 0, 0⟩ } (St.gns F l (s.V.put x.name ⟨n, 0, 0⟩) s.words (s.add (x.a.gn s.V F s.code.length n)).code.length (n + 1) (ns ++ [x.name])) := by
  simp [GS.out, St.gns, hk, GS.add, regsOf, List.foldl_append]
theorem gns_array {F : ByteArray → Int} {x : St} {l : List St} (hk : x.kind = 2) (s : GS) (n : Int) (ns : List ByteArray) :
    s.out (St.gns F (x :: l) s.V s.words s.code.length n ns) = GS.out { s with V := s.V.put x.name ⟨0, s.words, x.n⟩, words := gw64 (s.words + x.n) } (St.gns F l (s.V.put x.name ⟨0, s.words, x.n⟩) (gw64 (s.words + x.n)) s.code.length n (ns ++ [x.name])) := by
  simp [GS.out, St.gns, hk]
theorem gns_other {F : ByteArray → Int} {x : St} {l : List St} (h1 : x.kind ≠ 1) (h2 : x.kind ≠ 2) (s : GS) (n : Int) (ns : List ByteArray) :
    s.out (St.gns F (x :: l) s.V s.words s.code.length n ns) = (s.out (St.gn F x s.V s.words s.code.length n)).out (St.gns F l (s.out (St.gn F x s.V s.words s.code.length n)).V (s.out (St.gn F x s.V s.words s.code.length n)).words (s.out (St.gn F x s.V s.words s.code.length n)).code.length n ns) := by
  simp [GS.out, St.gns, h1, h2, regsOf, List.foldl_append]
theorem GS.out_len (s : GS) (o : GOut) : (s.out o).code.length = s.code.length + o.code.length := by simp [GS.out]
/-- Blocks that are none of a maker's turn: it stands. (A closure's boxes hold a pointer and a number.) -/
theorem MkAt.apart {w w' : World} {B : Nat} {m : Mk} {F : ByteArray → Int} {N : Nat} {s : GS} (h : MkAt w B m F N s) {T : Nat → Prop} (hO : Oth T w w') (hT : ∀ k, T k → ¬ m.T k ∧ k ≠ m.f ∧ (∀ p, w.cell? ⟨k, 0, none⟩ ≠ some (.pointer p)) ∧ ∀ z, w.cell? ⟨k, 0, none⟩ ≠ some (.int .i64 z)) :
    MkAt w' B m F N s := by
  have q := h.in
  have hb : ¬ T m.b := fun e => (hT _ e).1 (.inl rfl)
  have hv : ¬ T m.v := fun e => (hT _ e).1 (.inr (.inl rfl))
  have hf : ¬ T m.f := fun e => (hT _ e).2.1 rfl
  have k := fun j => hO.cell (p := ⟨m.b, j, none⟩) q hb
  obtain ⟨S, hS⟩ := h.funcs
  obtain ⟨S2, hS2, hn⟩ := h.vars
  refine ⟨(k _).trans h.c0, (k _).trans h.c1, (k _).trans h.c2, (k _).trans h.c3, (k _).trans h.c4, (k _).trans h.c5, fun j => (hO.frozen (p := ⟨m.b, j, none⟩) q hb).trans (h.fr j), owns_at_block h.code fun k hk => hO.block k (h.inT k (.inr (.inr (.inl hk)))) (fun e => (hT _ e).1 (.inr (.inr (.inl hk)))), ⟨S, hS.at_block (hO.block _ hS.lt hf)⟩, ⟨S2, hS2.at_block (hO.block _ hS2.lt hv), hn⟩, ?_, h.pin, h.lo, h.ne, h.apc, h.app, h.vreg⟩
  obtain ⟨fvs, h1, h2⟩ := h.pats
  refine ⟨fvs, owns_at_block h1 fun k hk => hO.block k (h.inT k (.inr (.inr (.inr hk)))) (fun e => (hT _ e).1 (.inr (.inr (.inr hk)))), fun i p hp => ?_⟩
  obtain ⟨fv, e, bm, ba, rfl, x0, y0, n1, n2⟩ := h2 i p hp
  exact ⟨_, e, bm, ba, rfl, (hO.cell (p := ⟨bm, 0, none⟩) (block_lt_of_cell x0) (fun e => (hT _ e).2.2.1 _ x0)).trans x0, (hO.cell (p := ⟨ba, 0, none⟩) (block_lt_of_cell y0) (fun e => (hT _ e).2.2.2 _ y0)).trans y0, n1, n2⟩
end Go.Proofs.YtgobcldecokppaaDoor
