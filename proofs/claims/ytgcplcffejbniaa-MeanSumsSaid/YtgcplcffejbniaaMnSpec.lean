/- mean: what statements of a few kinds come to, and how a run and a frame lie in memory. -/
import Derived.Test.YtgcplcffejbniaaRgEvery
import Derived.Test.YtgcplcffejbniaaRgRng
namespace Go.Proofs.Ytgcplcffejbniaa
open Go.RowKit Go.Maps

structure MS where
  V : ByteArray → Int
  v : Int
  r : Int
  e : Int
def w64 (z : Int) : Int := wrap64 z
theorem w64_in (z : Int) : in64 (w64 z) := by
  unfold w64 in64 wrap64
  omega
def upd (V : ByteArray → Int) (s : ByteArray) (z : Int) : ByteArray → Int := fun i => if i = s then z else V i
mutual
/-- What an expression of numbers, names and sums comes to. -/
def evS (V : ByteArray → Int) : Ex → Int
  | .mk k n s l => if k = 1 then n else if k = 2 then V s else w64 ((evSs V l).getD 0 0 + (evSs V l).getD 1 0)
def evSs (V : ByteArray → Int) : List Ex → List Int
  | [] => []
  | x :: l => evS V x :: evSs V l
end
mutual
def Ex.simp : Ex → Prop
  | .mk k n s l => in64 n ∧ s.size ≤ 16 ∧ (k = 1 ∨ k = 2 ∨ k = 7 ∧ l.length = 2 ∧ Ex.simps l)
def Ex.simps : List Ex → Prop
  | [] => True
  | x :: l => Ex.simp x ∧ Ex.simps l
end
mutual
def St.simp (N : List ByteArray) : St → Prop
  | .mk k nm _ a b body _ _ => a.simp ∧ (k = 9 ∨ (nm ∈ N ∧ nm.size ≤ 16) ∧ (k = 1 ∨ k = 3 ∨ k = 7 ∧ b.simp ∧ St.simps N body))
def St.simps (N : List ByteArray) : List St → Prop
  | [] => True
  | x :: l => St.simp N x ∧ St.simps N l
end
theorem Ex.simp_eq (x : Ex) : x.simp ↔ in64 x.n ∧ x.name.size ≤ 16 ∧ (x.kind = 1 ∨ x.kind = 2 ∨ x.kind = 7 ∧ x.args.length = 2 ∧ Ex.simps x.args) := by cases x; simp only [Ex.simp, Ex.n, Ex.name, Ex.kind, Ex.args]
theorem Ex.simps_at {l : List Ex} (h : Ex.simps l) {i : Nat} {x : Ex} (hx : l[i]? = some x) : x.simp := by
  induction l generalizing i with
  | nil => simp at hx
  | cons y l ih =>
    simp only [Ex.simps] at h
    cases i with
    | zero => simp at hx; subst hx; exact h.1
    | succ i => exact ih h.2 (by simpa using hx)
theorem St.simp_eq (N : List ByteArray) (x : St) : x.simp N ↔ x.a.simp ∧ (x.kind = 9 ∨ (x.name ∈ N ∧ x.name.size ≤ 16) ∧ (x.kind = 1 ∨ x.kind = 3 ∨ x.kind = 7 ∧ x.b.simp ∧ St.simps N x.body)) := by cases x; simp only [St.simp, St.a, St.kind, St.name, St.b, St.body]
theorem St.simps_at {N : List ByteArray} {l : List St} (h : St.simps N l) {i : Nat} {x : St} (hx : l[i]? = some x) : x.simp N := by
  induction l generalizing i with
  | nil => simp at hx
  | cons y l ih =>
    simp only [St.simps] at h
    cases i with
    | zero => simp at hx; subst hx; exact h.1
    | succ i => exact ih h.2 (by simpa using hx)
theorem evS_eq (V : ByteArray → Int) (x : Ex) : evS V x = if x.kind = 1 then x.n else if x.kind = 2 then V x.name else w64 ((evSs V x.args).getD 0 0 + (evSs V x.args).getD 1 0) := by cases x; simp only [evS, Ex.kind, Ex.n, Ex.name, Ex.args]; rfl
theorem evS_in {V : ByteArray → Int} (hV : ∀ s, in64 (V s)) {x : Ex} (hx : x.simp) : in64 (evS V x) := by
  rw [evS_eq]
  split
  · exact ((Ex.simp_eq x).1 hx).1
  split
  · exact hV _
  · exact w64_in _
def loopS (f : MS → Int × MS) (nm : ByteArray) (most : Int) : Int → Nat → MS → Int × MS
  | _, 0, m => (0, m)
  | i, t + 1, m => if most ≤ m.r then (2, { m with e := 53 }) else
      if (f { m with V := upd m.V nm i, r := m.r + 1 }).1 = 0 then loopS f nm most (i + 1) t (f { m with V := upd m.V nm i, r := m.r + 1 }).2 else (2, (f { m with V := upd m.V nm i, r := m.r + 1 }).2)
mutual
/-- What a statement comes to: 0 (the next one follows) or 2 (done), and the state behind it. -/
def runS (most : Int) : St → MS → Int × MS
  | .mk k nm _ a b body _ _ => fun m => if k = 7 then loopS (runsS most body) nm most (evS m.V a) ((evS m.V b - evS m.V a).toNat) m else if k = 9 then (2, { m with v := evS m.V a }) else (0, { m with V := upd m.V nm (evS m.V a) })
def runsS (most : Int) : List St → MS → Int × MS
  | [] => fun m => (0, m)
  | x :: l => fun m => if (runS most x m).1 = 0 then runsS most l (runS most x m).2 else runS most x m
end
theorem runS_eq (most : Int) (x : St) (m : MS) : runS most x m = if x.kind = 7 then loopS (runsS most x.body) x.name most (evS m.V x.a) ((evS m.V x.b - evS m.V x.a).toNat) m else if x.kind = 9 then (2, { m with v := evS m.V x.a }) else (0, { m with V := upd m.V x.name (evS m.V x.a) }) := by cases x; simp only [runS, St.kind, St.body, St.name, St.a, St.b]; rfl
theorem loopS_two (f : MS → Int × MS) (nm : ByteArray) (most : Int) : ∀ (t : Nat) (i : Int) (m : MS), (loopS f nm most i t m).1 = 0 ∨ (loopS f nm most i t m).1 = 2
  | 0, _, _ => .inl rfl
  | t + 1, i, m => by
    unfold loopS
    split
    · exact .inr rfl
    · split
      · exact loopS_two f nm most t _ _
      · exact .inr rfl
theorem runS_two (most : Int) (x : St) (m : MS) : (runS most x m).1 = 0 ∨ (runS most x m).1 = 2 := by
  rw [runS_eq]
  split
  · exact loopS_two _ _ _ _ _ _
  split
  · exact .inr rfl
  · exact .inl rfl
theorem runsS_two (most : Int) (l : List St) (m : MS) : (runsS most l m).1 = 0 ∨ (runsS most l m).1 = 2 := by
  induction l generalizing m with
  | nil => exact .inl (by simp only [runsS])
  | cons x l ih =>
    simp only [runsS]
    split
    · exact ih _
    · exact runS_two most x m

/-! ### a run and a frame -/
structure RnAt (w : World) (r : Nat) (vw vf : Value) (most n e : Int) : Prop where
  c0 : w.cell? ⟨r, 0, none⟩ = some vw
  c1 : w.cell? ⟨r, 1, none⟩ = some vf
  c2 : w.cell? ⟨r, 2, none⟩ = some (.int .i64 n)
  c3 : w.cell? ⟨r, 3, none⟩ = some (.int .i64 most)
  c4 : w.cell? ⟨r, 4, none⟩ = some (.int .i64 e)
  f : ∀ j, w.frozen? ⟨r, j, none⟩ = false
theorem RnAt.in {w : World} {r : Nat} {vw vf : Value} {most n e : Int} (h : RnAt w r vw vf most n e) : r < w.heap.size := block_lt_of_cell h.c0
theorem RnAt.oth {S : Nat → Prop} {w w' : World} {r : Nat} {vw vf : Value} {most n e : Int} (h : RnAt w r vw vf most n e) (hO : Oth S w w') (hr : ¬ S r) : RnAt w' r vw vf most n e :=
  have q := h.in
  have k := fun j => hO.cell (p := ⟨r, j, none⟩) q hr
  ⟨(k _).trans h.c0, (k _).trans h.c1, (k _).trans h.c2, (k _).trans h.c3, (k _).trans h.c4, fun j => (hO.frozen (p := ⟨r, j, none⟩) q hr).trans (h.f j)⟩
theorem RnAt.later {w w' : World} {r : Nat} {vw vf : Value} {most n e : Int} (h : RnAt w r vw vf most n e) (hb : Below w.heap.size w w') : RnAt w' r vw vf most n e := h.oth (S := fun _ => False) (.of_below hb) (fun h => h)
theorem RnAt.putN {w : World} {r : Nat} {vw vf : Value} {most n e : Int} (h : RnAt w r vw vf most n e) (z : Int) : RnAt (w.setCell ⟨r, 2, none⟩ (.int .i64 z)) r vw vf most z e := by
  have ne : ∀ j, j ≠ 2 → (w.setCell ⟨r, 2, none⟩ (.int .i64 z)).cell? ⟨r, j, none⟩ = w.cell? ⟨r, j, none⟩ := fun j hj => World.cell?_setCell_other _ _ _ _ (by intro e; injection e with e1 e2; exact hj e2.symm)
  exact ⟨(ne 0 (by omega)).trans h.c0, (ne 1 (by omega)).trans h.c1, World.cell?_setCell_same' _ _ _ (by rw [h.c2]; rfl), (ne 3 (by omega)).trans h.c3, (ne 4 (by omega)).trans h.c4, fun j => (World.frozen?_setCell _ _ _ _).trans (h.f j)⟩
theorem RnAt.putE {w : World} {r : Nat} {vw vf : Value} {most n e : Int} (h : RnAt w r vw vf most n e) (z : Int) : RnAt (w.setCell ⟨r, 4, none⟩ (.int .i64 z)) r vw vf most n z := by
  have ne : ∀ j, j ≠ 4 → (w.setCell ⟨r, 4, none⟩ (.int .i64 z)).cell? ⟨r, j, none⟩ = w.cell? ⟨r, j, none⟩ := fun j hj => World.cell?_setCell_other _ _ _ _ (by intro e; injection e with e1 e2; exact hj e2.symm)
  exact ⟨(ne 0 (by omega)).trans h.c0, (ne 1 (by omega)).trans h.c1, (ne 2 (by omega)).trans h.c2, (ne 3 (by omega)).trans h.c3, World.cell?_setCell_same' _ _ _ (by rw [h.c4]; rfl), fun j => (World.frozen?_setCell _ _ _ _).trans (h.f j)⟩
theorem nodup_sub_len {α : Type} [DecidableEq α] : ∀ (a b : List α), a.Nodup → (∀ x ∈ a, x ∈ b) → a.length ≤ b.length
  | [], _, _, _ => Nat.zero_le _
  | x :: a, b, h1, h2 => by
    have hx := h2 x (by simp)
    have := nodup_sub_len a (b.erase x) (List.nodup_cons.1 h1).2 (fun y hy => by
      have hne : y ≠ x := fun e => (List.nodup_cons.1 h1).1 (e ▸ hy)
      exact (List.mem_erase_of_ne hne).2 (h2 y (by simp [hy])))
    rw [List.length_erase_of_mem hx] at this
    have := List.length_pos_of_mem hx
    simp; omega
/-- The names that are known, in map block b: all of N. -/
def VMap (w : World) (b : Nat) (N : List ByteArray) (V : ByteArray → Int) : Prop := ∃ S, SMap w b S V ∧ ∀ s ∈ S, s ∈ N
theorem VMap.later {w w' : World} {b B : Nat} {N : List ByteArray} {V : ByteArray → Int} (h : VMap w b N V) (hb : Below B w w') (hB : b < B) : VMap w' b N V := by obtain ⟨S, h1, h2⟩ := h; exact ⟨S, h1.later hb hB, h2⟩
theorem VMap.oth {T : Nat → Prop} {w w' : World} {b : Nat} {N : List ByteArray} {V : ByteArray → Int} (h : VMap w b N V) (hO : Oth T w w') (hb : ¬ T b) : VMap w' b N V := by obtain ⟨S, h1, h2⟩ := h; exact ⟨S, h1.oth hO hb, h2⟩
theorem VMap.lt {w : World} {b : Nat} {N : List ByteArray} {V : ByteArray → Int} (h : VMap w b N V) : b < w.heap.size := by obtain ⟨S, h1, _⟩ := h; exact h1.lt
theorem vm_zero (w : World) : (zeroValue 2).run Try.prog w = .ok (.int .i64 0) w := by kernel_rfl
set_option maxRecDepth 100000 in
theorem VMap.look {w : World} {b : Nat} {N : List ByteArray} {V : ByteArray → Int} (h : VMap w b N V) (y : ByteArray) (hs : y.size ≤ 16) (z : Int) (hz : V y = z) : (Instr.lookup 125 (.map (some b)) (.string y) false).run Try.prog w = .ok (.int .i64 z) w := by
  obtain ⟨S, ⟨D, h, _, _, _, hF⟩, _⟩ := h
  obtain ⟨v, ps, hrun, hv⟩ := h.lookup Try.strKey Try.underlying125 (z := .int .i64 0) (vm_zero w) (zd := .lit (.int .i64 0)) (zp := []) rfl (WideMaps.keyOf_string_mk Try.underlying9 (show y.size ≤ maxLen by unfold maxLen; omega))
  have hv : numD v = some (D.atKey (keyS y) (.lit (.int .i64 0)), ps) := hv
  rw [hF y, hz] at hv
  have e := numD_inv hv
  subst e
  exact hrun
set_option maxRecDepth 100000 in
theorem VMap.put {w : World} {b : Nat} {N : List ByteArray} {V : ByteArray → Int} (h : VMap w b N V) (hN : N.length ≤ 1000) (y : ByteArray) (hy : y ∈ N) (hs : y.size ≤ 16) (z : Int) : ∃ w', (Instr.mapUpdate 125 (.map (some b)) (.string y) (.int .i64 z)).run Try.prog w = .ok () w' ∧ VMap w' b N (upd V y z) ∧ Oth (· = b) w w' := by
  obtain ⟨S, ⟨D, h, hn, hsz0, hh, hF⟩, hS⟩ := h
  have hl : S.length ≤ 1000 := Nat.le_trans (nodup_sub_len S N hn hS) hN
  obtain ⟨w', hrun, h1, h2⟩ := h.update Try.strKey Try.underlying125 (by unfold maxLen; omega) (WideMaps.keyOf_string_mk Try.underlying9 (show y.size ≤ maxLen by unfold maxLen; omega)) (show numD (.int .i64 z) = some (.lit (.int .i64 z), []) from rfl)
  have h1 : w'.ownsMap Try.prog 9 numD b (S.length + 1) (D.put (keyS y) (.lit (.int .i64 z))) := h1
  have hsz : Maps.size (D.put (keyS y) (.lit (.int .i64 z))) = (insS S y).length := by
    rw [size_put (h.tidy Try.strKey), hsz0]
    unfold insS
    by_cases hy : y ∈ S
    · rw [if_pos ((hh _).2 ⟨y, hy, rfl⟩), if_pos hy]
    · rw [if_neg (fun h => hy (by obtain ⟨z, hz, e⟩ := (hh _).1 h; rw [keyS_inj e]; exact hz)), if_neg hy]; rfl
  refine ⟨w', hrun, ⟨insS S y, ⟨D.put (keyS y) (.lit (.int .i64 z)), by rw [← hsz]; exact owns_tight h1, insS_nodup hn y, hsz, fun kl => ?_, fun u => ?_⟩, fun s hs => ?_⟩, .of_grown h2⟩
  · rw [hasS_put h.isMap, hh]
    constructor
    · rintro (rfl | ⟨x, hx, rfl⟩)
      · exact ⟨y, (insS_mem _ _ _).2 (.inl rfl), rfl⟩
      · exact ⟨x, (insS_mem _ _ _).2 (.inr hx), rfl⟩
    · rintro ⟨x, hx, rfl⟩
      rcases (insS_mem _ _ _).1 hx with rfl | hx
      · exact .inl rfl
      · exact .inr ⟨x, hx, rfl⟩
  · unfold upd
    by_cases e : u = y
    · subst e; simp only [if_true]; exact atKey_put_same h.isMap (isKeyS _) _ _
    · simp only [if_neg e]; rw [atKey_put_other (fun e1 => e (keyS_inj e1))]; exact hF u
  · rcases (insS_mem _ _ _).1 hs with rfl | h
    · exact hy
    · exact hS s h
structure FrAt (w : World) (c r b : Nat) (vw vf : Value) (most : Int) (N : List ByteArray) (m : MS) : Prop where
  run : RnAt w r vw vf most m.r m.e
  c0 : w.cell? ⟨c, 0, none⟩ = some (.pointer (some ⟨r, 0, none⟩))
  c1 : w.cell? ⟨c, 1, none⟩ = some (.map (some b))
  c4 : w.cell? ⟨c, 4, none⟩ = some (.int .i64 m.v)
  f4 : w.frozen? ⟨c, 4, none⟩ = false
  map : VMap w b N m.V
  lt : r < b ∧ b < c
  vin : ∀ s, in64 (m.V s)
  few : N.length ≤ 1000
/-- What a frame's walk may write. -/
def MT (r b c : Nat) (k : Nat) : Prop := k = r ∨ k = b ∨ k = c
theorem FrAt.in {w : World} {c r b : Nat} {vw vf : Value} {most : Int} {N : List ByteArray} {m : MS} (h : FrAt w c r b vw vf most N m) : c < w.heap.size := block_lt_of_cell h.c0
theorem FrAt.later {w w' : World} {c r b : Nat} {vw vf : Value} {most : Int} {N : List ByteArray} {m : MS} (h : FrAt w c r b vw vf most N m) (hb : Below w.heap.size w w') : FrAt w' c r b vw vf most N m :=
  have q := h.in
  ⟨h.run.later hb, (hb.cell (p := ⟨c, 0, none⟩) q).trans h.c0, (hb.cell (p := ⟨c, 1, none⟩) q).trans h.c1, (hb.cell (p := ⟨c, 4, none⟩) q).trans h.c4, (hb.frozen (p := ⟨c, 4, none⟩) q).trans h.f4, h.map.later hb h.map.lt, h.lt, h.vin, h.few⟩
theorem FrAt.putV {w w' : World} {c r b : Nat} {vw vf : Value} {most : Int} {N : List ByteArray} {m : MS} (h : FrAt w c r b vw vf most N m) (hO : Oth (· = b) w w') {y : ByteArray} {z : Int} (hm : VMap w' b N (upd m.V y z)) (hz : in64 z) : FrAt w' c r b vw vf most N { m with V := upd m.V y z } :=
  have q := h.in
  have hl := h.lt
  have k := fun j => hO.cell (p := ⟨c, j, none⟩) q (show c ≠ b by omega)
  ⟨h.run.oth hO (show r ≠ b by omega), (k _).trans h.c0, (k _).trans h.c1, (k _).trans h.c4, (hO.frozen (p := ⟨c, 4, none⟩) q (show c ≠ b by omega)).trans h.f4, hm, hl, fun s => by show in64 (upd m.V y z s); unfold upd; split; exact hz; exact h.vin s, h.few⟩
theorem FrAt.putRun {w w' : World} {c r b : Nat} {vw vf : Value} {most : Int} {N : List ByteArray} {m : MS} (h : FrAt w c r b vw vf most N m) (hO : Oth (· = r) w w') {n e : Int} (hr : RnAt w' r vw vf most n e) : FrAt w' c r b vw vf most N { m with r := n, e := e } :=
  have q := h.in
  have hl := h.lt
  have k := fun j => hO.cell (p := ⟨c, j, none⟩) q (show c ≠ r by omega)
  ⟨hr, (k _).trans h.c0, (k _).trans h.c1, (k _).trans h.c4, (hO.frozen (p := ⟨c, 4, none⟩) q (show c ≠ r by omega)).trans h.f4, h.map.oth hO (show b ≠ r by omega), hl, h.vin, h.few⟩
theorem FrAt.putv {w : World} {c r b : Nat} {vw vf : Value} {most : Int} {N : List ByteArray} {m : MS} (h : FrAt w c r b vw vf most N m) (z : Int) : FrAt (w.setCell ⟨c, 4, none⟩ (.int .i64 z)) c r b vw vf most N { m with v := z } := by
  have hl := h.lt
  have hO : Oth (· = c) w (w.setCell ⟨c, 4, none⟩ (.int .i64 z)) := (Oth.refl (· = c) w).set (p := ⟨c, 4, none⟩) rfl _
  have ne : ∀ j, j ≠ 4 → (w.setCell ⟨c, 4, none⟩ (.int .i64 z)).cell? ⟨c, j, none⟩ = w.cell? ⟨c, j, none⟩ := fun j hj => World.cell?_setCell_other _ _ _ _ (by intro e; injection e with e1 e2; exact hj e2.symm)
  exact ⟨h.run.oth hO (show r ≠ c by omega), (ne 0 (by omega)).trans h.c0, (ne 1 (by omega)).trans h.c1, World.cell?_setCell_same' _ _ _ (by rw [h.c4]; rfl), (World.frozen?_setCell _ _ _ _).trans h.f4, h.map.oth hO (show b ≠ c by omega), hl, h.vin, h.few⟩
theorem Oth.weak {S T : Nat → Prop} {w w' : World} (h : Oth S w w') (hs : ∀ k, S k → T k) : Oth T w w' := ⟨h.os, h.tape, h.output, h.size, fun i hi hc => h.block i hi fun hS => hc (hs i hS)⟩
end Go.Proofs.Ytgcplcffejbniaa
