/- Lists of loops of the call's own: their rows are written over, and appended to. -/
import Derived.Test.YtapjdndcnenadaaDoorFindPlain
import Derived.Test.YtapjdndcnenadaaDoorRSame
namespace Go.Proofs.YtapjdndcnenadaaDoor
open Go.RowKit

theorem nodup_flat {α : Type} {f : α → List Nat} : ∀ {l : List α}, (l.flatMap f).Nodup → ∀ {i j : Nat} {x y : α}, l[i]? = some x → l[j]? = some y → i ≠ j → ∀ k, k ∈ f x → ¬ k ∈ f y
  | [], _, _, _, _, _, h, _, _, _, _ => by simp at h
  | z :: l, hn, i, j, x, y, hx, hy, hij, k, hk => by
    rw [List.flatMap_cons, List.nodup_append] at hn
    intro hk2
    cases i with
    | zero =>
      cases j with
      | zero => exact hij rfl
      | succ j =>
        simp at hx hy
        subst hx
        exact hn.2.2 k hk k (List.mem_flatMap.2 ⟨y, List.mem_of_getElem? hy, hk2⟩) rfl
    | succ i =>
      cases j with
      | zero =>
        simp at hx hy
        subst hy
        exact hn.2.2 k hk2 k (List.mem_flatMap.2 ⟨x, List.mem_of_getElem? hx, hk⟩) rfl
      | succ j =>
        simp at hx hy
        exact nodup_flat hn.2.1 hx hy (by omega) k hk hk2
theorem nodup_flat_in {α : Type} {f : α → List Nat} : ∀ {l : List α}, (l.flatMap f).Nodup → ∀ {x : α}, x ∈ l → (f x).Nodup
  | [], _, _, h => by simp at h
  | z :: l, hn, x, hx => by
    rw [List.flatMap_cons, List.nodup_append] at hn
    rcases List.mem_cons.1 hx with rfl | hx
    · exact hn.1
    · exact nodup_flat_in hn.2.1 hx

def LP.row (x : LP) (side : Bool) : Value := if side then x.vm else x.vb
def LP.cont (x : LP) (side : Bool) : List Int := if side then x.mem else x.backs
def LP.put (x : LP) (side : Bool) (c : List Int) : LP := if side then { x with mem := c } else { x with backs := c }
theorem LP.put_row (x : LP) (s t : Bool) (c : List Int) : (x.put s c).row t = x.row t := by cases s <;> cases t <;> rfl
theorem LP.put_cells (x : LP) (s : Bool) (c : List Int) : (x.put s c).cells = x.cells := by cases s <;> rfl
theorem LP.put_cont (x : LP) (s : Bool) (c : List Int) : (x.put s c).cont s = c := by cases s <;> rfl
theorem LP.put_other (x : LP) (s : Bool) (c : List Int) : (x.put s c).cont (!s) = x.cont (!s) := by cases s <;> rfl
theorem LP.put_blocks (x : LP) (s : Bool) (c : List Int) : (x.put s c).vm.ownBlock.toList ++ (x.put s c).vb.ownBlock.toList = x.vm.ownBlock.toList ++ x.vb.ownBlock.toList := by cases s <;> rfl
theorem OwnLoops.side {W : World} {B B1 : Nat} {v : Value} {l : List LP} (h : OwnLoops W B B1 v l) {x : LP} (hx : x ∈ l) (s : Bool) : OwnInts W B (x.row s) (x.cont s) := by
  cases s
  · exact (h.each x hx).2
  · exact (h.each x hx).1
/-- The block of a row is nobody else's. -/
theorem OwnLoops.only {W : World} {B B1 : Nat} {v : Value} {l : List LP} (h : OwnLoops W B B1 v l) {i : Nat} {x : LP} (hx : l[i]? = some x) {s : Bool} {g : Nat} (hg : (x.row s).ownBlock = some g) :
    v.ownBlock ≠ some g ∧ (x.row (!s)).ownBlock ≠ some g ∧ ∀ j y, l[j]? = some y → j ≠ i → ∀ t, (y.row t).ownBlock ≠ some g := by
  have hn := List.nodup_append.1 (show (v.ownBlock.toList ++ _).Nodup from h.apart)
  have hm : g ∈ x.vm.ownBlock.toList ++ x.vb.ownBlock.toList := by
    rw [List.mem_append]
    cases s
    · right; simpa [LP.row] using hg
    · left; simpa [LP.row] using hg
  refine ⟨fun e => ?_, fun e => ?_, fun j y hy hj t e => ?_⟩
  · exact hn.2.2 g (by rw [e]; simp) g (List.mem_flatMap.2 ⟨x, List.mem_of_getElem? hx, hm⟩) rfl
  · have h2 := List.nodup_append.1 (nodup_flat_in hn.2.1 (List.mem_of_getElem? hx))
    cases s
    · exact h2.2.2 g (by simpa [LP.row] using e) g (by simpa [LP.row] using hg) rfl
    · exact h2.2.2 g (by simpa [LP.row] using hg) g (by simpa [LP.row] using e) rfl
  · refine nodup_flat hn.2.1 hx hy (fun e2 => hj e2.symm) g hm ?_
    rw [List.mem_append]
    cases t
    · right; simpa [LP.row] using e
    · left; simpa [LP.row] using e
theorem flatMap_set_same {α β : Type} (f : α → List β) : ∀ {l : List α} {i : Nat} {x y : α}, l[i]? = some x → f y = f x → (l.set i y).flatMap f = l.flatMap f
  | [], _, _, _, h, _ => by simp at h
  | z :: l, 0, x, y, h, e => by simp at h; subst h; simp [e]
  | z :: l, i + 1, x, y, h, e => by
    simp only [List.set_cons_succ, List.flatMap_cons]
    rw [flatMap_set_same f (by simpa using h) e]
/-- A number of a row is written over. -/
theorem OwnLoops.put {W : World} {B B1 : Nat} {v : Value} {l : List LP} (h : OwnLoops W B B1 v l) {i : Nat} {x : LP} (hx : l[i]? = some x) (s : Bool) {g n c : Nat} (hv : x.row s = .slice (some ⟨g, 0, none⟩) n c) (k : Nat) (z : Int) :
    OwnLoops (W.setCell ⟨g, k, none⟩ (.int .i64 z)) B B1 v (l.set i (x.put s ((x.cont s).set k z))) := by
  obtain ⟨o1, o2, o3⟩ := h.only hx (s := s) (g := g) (by rw [hv]; rfl)
  have hs := h.side (List.mem_of_getElem? hx) s
  have hs2 := h.side (List.mem_of_getElem? hx) (!s)
  refine ⟨?_, fun y hy => ?_, ?_⟩
  · unfold loopVs
    rw [List.length_set, flatMap_set_same _ hx (LP.put_cells _ _ _)]
    exact ownsRow_setCell_other h.row o1 _
  · obtain ⟨j, hj⟩ := List.mem_iff_getElem?.1 hy
    rw [List.getElem?_set] at hj
    by_cases e : i = j
    · subst e
      rw [if_pos rfl] at hj
      split at hj
      · obtain rfl := Option.some.inj hj
        rw [hv] at hs
        have e1 := OwnInts.store hs k z
        have e2 := ownsRow_setCell_other (a := ⟨g, k, none⟩) hs2 o2 (.int .i64 z)
        rw [← hv] at e1
        cases s
        · exact ⟨e2, e1⟩
        · exact ⟨e1, e2⟩
      · cases hj
    · rw [if_neg e] at hj
      have e3 := o3 j y hj (fun e2 => e e2.symm)
      exact ⟨ownsRow_setCell_other (a := ⟨g, k, none⟩) (h.each y (List.mem_of_getElem? hj)).1 (e3 true) _, ownsRow_setCell_other (a := ⟨g, k, none⟩) (h.each y (List.mem_of_getElem? hj)).2 (e3 false) _⟩
  · unfold blocksOf
    rw [flatMap_set_same _ hx (LP.put_blocks _ _ _)]
    exact h.apart
/-- A row is appended to, and stays as it was. -/
theorem OwnLoops.app {W w' : World} {B B1 : Nat} {v : Value} {l : List LP} (h : OwnLoops W B B1 v l) {i : Nat} {x : LP} (hx : l[i]? = some x) (s : Bool) {o : Obj} (hg : (W.alloc o).grownBy w' (x.row s).ownBlock) (ho : OwnInts w' B (x.row s) (x.cont s)) :
    OwnLoops w' B B1 v l := by
  have hne : ∀ (u : Value) {e : TypeId} {size n : Nat} {xs : List Value} {B2 : Nat}, W.ownsRow B2 e size u n xs → (∀ k, (x.row s).ownBlock = some k → u.ownBlock ≠ some k) → w'.ownsRow B2 e size u n xs := fun u _ _ _ _ _ hu hk => by
    refine World.ownsRow.kept (World.ownsRow.alloc hu _) hg ?_
    cases hub : u.ownBlock with
    | none => exact .inl rfl
    | some k => exact .inr (fun e => hk k e.symm hub)
  have o := fun g hg => h.only hx (s := s) (g := g) hg
  have hs2 := hne _ (h.side (List.mem_of_getElem? hx) (!s)) (fun k hk => (o k hk).2.1)
  refine ⟨hne _ h.row (fun k hk => (o k hk).1), fun y hy => ?_, h.apart⟩
  obtain ⟨j, hj⟩ := List.mem_iff_getElem?.1 hy
  by_cases e : j = i
  · subst e
    rw [hx] at hj
    obtain rfl := Option.some.inj hj
    cases s
    · exact ⟨hs2, ho⟩
    · exact ⟨ho, hs2⟩
  · exact ⟨hne _ (h.each y hy).1 (fun k hk => (o k hk).2.2 j y hj e true), hne _ (h.each y hy).2 (fun k hk => (o k hk).2.2 j y hj e false)⟩

/-- 'append(l, y)': the list that is appended to stays the call's own, as it was. -/
theorem append_int_keep {ops : Array Oper} {rest : List Oper} {o : Oper} {a : Act} {Q : Exit → Act → World → Prop} {w : World} (hgd : o.guard = none) (s x : Operand)
    (ho : o.op = .call { callee := .builtin .append, args := #[s, x], argTypes := #[38, 38] })
    (B : Nat) (v : Value) (l : List Int) (hs : a.eval s = v) (hown : OwnInts w B v l) (y : Int) (hx : a.eval x = .slice (some ⟨w.heap.size, 0, none⟩) 1 1)
    (hl : l.length ≤ 1000000000000) (hB : B ≤ w.heap.size)
    (h : ∀ a' c' w', OwnInts w' B v l → (w.alloc (.cells #[.int .i64 y] 3)).grownBy w' v.ownBlock → (∀ C w0, Below C w0 w → C ≤ B → Below C w0 w') → wpList Tryd.prog ops Q rest (a.put o.dst (.slice a' (l.length + 1) c')) w') :
    wpList Tryd.prog ops Q (o :: rest) a (w.alloc (.cells #[.int .i64 y] 3)) := by
  obtain ⟨w1, hw1⟩ : ∃ w1, w1 = w.alloc (.cells #[.int .i64 y] 3) := ⟨_, rfl⟩
  have hown1 : OwnInts w1 B v l := by rw [hw1]; exact World.ownsRow.alloc hown _
  have hsrc : SliceIn w1 (.slice (some ⟨w.heap.size, 0, none⟩) 1 1) 1 1 [.int .i64 y] := by rw [hw1]; exact sliceIn_new w [.int .i64 y] 1 1 3 rfl (by decide)
  have hB1 : B ≤ w1.heap.size := by rw [hw1]; simp; omega
  obtain ⟨v', w', hr, h2, h3, h4⟩ := append_run (P := Tryd.prog) (w := w1) (t := 38) (ty := o.type) Tryd.underlying38 Tryd.infoInt rfl (by decide) B v l.length (intVs l) hown1 _ 1 [.int .i64 y] hsrc (by intro u hu; simp at hu; subst hu; rfl) (by unfold maxLen; omega) (by omega) hB1
  have hkeep : OwnInts w' B v l := by
    obtain ⟨i, hi, hz, hsi, hb⟩ := info_parts Tryd.infoInt
    have hc : ∀ j u, [Value.int .i64 y][j]? = some u → w1.cell? ((⟨w.heap.size, 0, none⟩ : Addr).add j) = some u := by
      intro j u hu
      obtain ⟨_, a2, cap, e, _, _, _, hcells⟩ := hsrc
      cases e
      obtain ⟨b, off, ha, _, hc⟩ := hcells (by decide)
      cases ha
      rw [Addr.add_lit]; exact hc j u hu
    have hown2 := hown1
    rcases hown1.2 with ⟨rfl, hl0⟩ | ⟨g, vcap, cur, rfl, hbg, hgh, hnv, hcm, hcs, htake⟩
    · exact ⟨hown1.1, .inl ⟨rfl, hl0⟩⟩
    · by_cases hroom : l.length + 1 ≤ vcap
      · have hr2 := run_append_room (P := Tryd.prog) w1 38 o.type 3 i Tryd.underlying38 hi g l.length vcap cur hgh ⟨w.heap.size, 0, none⟩ 1 1 [.int .i64 y] (by rw [hsi]; rfl) hc (by intro u hu; simp at hu; subst hu; rfl) hroom (by rw [hsi, hcs]; simp; omega)
        rw [hr] at hr2
        cases hr2
        rcases h2.2 with ⟨h5, _⟩ | ⟨g2, cap2, cur2, e, hb2, hh2, hn2, hm2, hs2, ht2⟩
        · cases h5
        · cases e
          refine ⟨hown2.1, .inr ⟨g, vcap, cur2, rfl, hb2, hh2, by omega, hm2, hs2, ?_⟩⟩
          have e2 := congrArg (List.take (l.length * 1)) ht2
          rw [List.take_take, Nat.min_eq_left (by omega)] at e2
          rw [e2, List.take_append_of_le_length (by rw [hown2.1]; exact Nat.le_refl _), List.take_of_length_le (by rw [hown2.1]; exact Nat.le_refl _)]
      · have holds : ∀ j u, (intVs l)[j]? = some u → w1.cell? ((⟨g, 0, none⟩ : Addr).add j) = some u := World.ownsRow.cells hown2 (g := g) rfl
        have hr2 := run_append_grow (P := Tryd.prog) w1 38 o.type 3 i _ Tryd.underlying38 hi hz ⟨g, 0, none⟩ l.length vcap (intVs l) (by rw [hsi]; exact hown2.1) holds ⟨w.heap.size, 0, none⟩ 1 1 [.int .i64 y] (by rw [hsi]; rfl) hc (by omega) (by omega) (growslice_fits (by omega) (by rw [hb]; omega))
        rw [hr] at hr2
        cases hr2
        exact ownsRow_below hown2 ((Below.refl _ _).drew.alloc (Nat.le_refl _) _) (Nat.le_refl _)
  obtain ⟨a', c', rfl⟩ : ∃ a c, v' = .slice a (l.length + 1) c := by
    rcases h2.2 with ⟨h5, h6⟩ | ⟨g, cap, cur, e, _⟩
    · omega
    · exact ⟨_, _, e⟩
  rw [← hw1]
  refine wpList_plain hgd fun K hK => ?_
  unfold Oper.wp execOp
  simp only [ho, resolve, invoke, builtin, Sem.run_bind, Sem.run_pure, Result.andThen_ok, List.map_toArray, List.map_cons, List.map_nil, hs, hx, hr]
  refine hK _ _ (h a' c' w' hkeep (by rw [← hw1]; exact h3) fun C w0 hb hC => ?_)
  have hb1 : Below C w0 w1 := by rw [hw1]; exact hb.alloc (by omega) _
  exact hb1.grown h3 (by omega) fun k hk => by have := (World.ownsRow.lt hown1 k hk).1; omega
end Go.Proofs.YtapjdndcnenadaaDoor
