/- gen: the module that is made may be, as a plain law. -/
import Derived.Test.YtgobcldecokppaaDoorGnMod
import Derived.Test.YtgobcldecokppaaDoorRgCheck
/- gen: the code that is made may be, as a plain law. -/
namespace Go.Proofs.YtgobcldecokppaaDoor
open Go.RowKit Go.Maps

/-! ### what an operation has -/
def hasA (o : Int) : Bool := decide (o ≠ 14)
def hasB (o : Int) : Bool := decide ((2 ≤ o ∧ o ≤ 12) ∨ o = 17 ∨ o = 19)
def hasC (o : Int) : Bool := decide (3 ≤ o ∧ o ≤ 9)
/-- The kind of a field N: 0 none, 1 a number, 2 a target, 3 checked, 4 a function. -/
def kindN (o : Int) : Int := if o = 1 ∨ o = 11 ∨ o = 12 then 1 else if 14 ≤ o ∧ o ≤ 18 then 2 else if o = 13 then 3 else if o = 19 then 4 else 0
structure InsS (lim : Int) (G : Int → Int → Prop) (x : Ins) : Prop where
  op : 0 ≤ x.op ∧ x.op < 20
  a : (hasA x.op = true → 0 ≤ x.a) ∧ (hasA x.op = false → x.a = 0)
  b : (hasB x.op = true → 0 ≤ x.b) ∧ (hasB x.op = false → x.b = 0)
  c : (hasC x.op = true → 0 ≤ x.c) ∧ (hasC x.op = false → x.c = 0)
  n0 : kindN x.op = 0 → x.n = 0
  n2 : kindN x.op = 2 → 0 ≤ x.n ∧ x.n ≤ lim
  n3 : kindN x.op = 3 → 1 ≤ x.n ∧ x.n ≤ 4096
  n4 : kindN x.op = 4 → G x.b x.n
section
variable {lim : Int} {G : Int → Int → Prop} {a b c n : Int}
theorem is_ret (ha : 0 ≤ a) : InsS lim G ⟨0, a, 0, 0, 0⟩ := by constructor <;> simp [hasA, hasB, hasC, kindN] <;> omega
theorem is_set (ha : 0 ≤ a) : InsS lim G ⟨1, a, 0, 0, n⟩ := by constructor <;> simp [hasA, hasB, hasC, kindN] <;> omega
theorem is_move (ha : 0 ≤ a) (hb : 0 ≤ b) : InsS lim G ⟨2, a, b, 0, 0⟩ := by constructor <;> simp [hasA, hasB, hasC, kindN] <;> omega
theorem is_not (ha : 0 ≤ a) (hb : 0 ≤ b) : InsS lim G ⟨10, a, b, 0, 0⟩ := by constructor <;> simp [hasA, hasB, hasC, kindN] <;> omega
theorem is_three {o : Int} (ho : 3 ≤ o ∧ o ≤ 9) (ha : 0 ≤ a) (hb : 0 ≤ b) (hc : 0 ≤ c) : InsS lim G ⟨o, a, b, c, 0⟩ := by
  constructor <;> simp [hasA, hasB, hasC, kindN] <;> omega
theorem is_load (ha : 0 ≤ a) (hb : 0 ≤ b) : InsS lim G ⟨11, a, b, 0, n⟩ := by constructor <;> simp [hasA, hasB, hasC, kindN] <;> omega
theorem is_store (ha : 0 ≤ a) (hb : 0 ≤ b) : InsS lim G ⟨12, a, b, 0, n⟩ := by constructor <;> simp [hasA, hasB, hasC, kindN] <;> omega
theorem is_check (ha : 0 ≤ a) (hn : 1 ≤ n ∧ n ≤ 4096) : InsS lim G ⟨13, a, 0, 0, n⟩ := by constructor <;> simp [hasA, hasB, hasC, kindN] <;> omega
theorem is_jump (hn : 0 ≤ n ∧ n ≤ lim) : InsS lim G ⟨14, 0, 0, 0, n⟩ := by constructor <;> simp [hasA, hasB, hasC, kindN] <;> omega
theorem is_if (ha : 0 ≤ a) (hn : 0 ≤ n ∧ n ≤ lim) : InsS lim G ⟨15, a, 0, 0, n⟩ := by constructor <;> simp [hasA, hasB, hasC, kindN] <;> omega
theorem is_unless (ha : 0 ≤ a) (hn : 0 ≤ n ∧ n ≤ lim) : InsS lim G ⟨16, a, 0, 0, n⟩ := by constructor <;> simp [hasA, hasB, hasC, kindN] <;> omega
theorem is_count (ha : 0 ≤ a) (hb : 0 ≤ b) (hn : 0 ≤ n ∧ n ≤ lim) : InsS lim G ⟨17, a, b, 0, n⟩ := by constructor <;> simp [hasA, hasB, hasC, kindN] <;> omega
theorem is_step (ha : 0 ≤ a) (hn : 0 ≤ n ∧ n ≤ lim) : InsS lim G ⟨18, a, 0, 0, n⟩ := by constructor <;> simp [hasA, hasB, hasC, kindN] <;> omega
theorem is_call (ha : 0 ≤ a) (hb : 0 ≤ b) (hg : G b n) : InsS lim G ⟨19, a, b, 0, n⟩ := by constructor <;> simp [hasA, hasB, hasC, kindN] <;> first | omega | assumption
end
def CodeS (lim : Int) (G : Int → Int → Prop) (c : List Ins) : Prop := ∀ x ∈ c, InsS lim G x
section
variable {lim : Int} {G : Int → Int → Prop}
theorem CodeS.nil : CodeS lim G [] := fun x hx => by cases hx
theorem CodeS.one {x : Ins} (h : InsS lim G x) : CodeS lim G [x] := fun y hy => by simp at hy; subst hy; exact h
theorem CodeS.cons {x : Ins} {c : List Ins} (h : InsS lim G x) (hc : CodeS lim G c) : CodeS lim G (x :: c) := fun y hy => by
  rcases List.mem_cons.1 hy with hy | hy
  · subst hy; exact h
  · exact hc y hy
theorem CodeS.app {c d : List Ins} (h : CodeS lim G c) (g : CodeS lim G d) : CodeS lim G (c ++ d) := fun x hx => by
  rcases List.mem_append.1 hx with hx | hx
  · exact h x hx
  · exact g x hx
end
/-- Registers below R alone are named first. -/
def RegA (R : Int) (c : List Ins) : Prop := ∀ z ∈ c.map Ins.a, z + 1 ≤ R
section
variable {R : Int}
theorem RegA.left {c d : List Ins} (h : RegA R (c ++ d)) : RegA R c := fun z hz => h z (by rw [List.map_append]; exact List.mem_append_left _ hz)
theorem RegA.right {c d : List Ins} (h : RegA R (c ++ d)) : RegA R d := fun z hz => h z (by rw [List.map_append]; exact List.mem_append_right _ hz)
theorem RegA.at {c : List Ins} (h : RegA R c) {x : Ins} (hx : x ∈ c) : x.a + 1 ≤ R := h _ (List.mem_map.2 ⟨x, hx, rfl⟩)
theorem patch_map {β : Type} {g : Ins → β} (hg : ∀ (x : Ins) v, g { x with n := v } = g x) (p : Nat) (v : Int) : ∀ (J : List Nat) (l : List Ins), (patchAt l p J v).map g = l.map g
  | [], l => rfl
  | j :: J, l => by
    show (patchAt (l.modify (j - p) fun x => { x with n := v }) p J v).map g = _
    rw [patch_map hg p v J, modify_map (g := g) (f := fun x => { x with n := v }) (fun x => hg x v)]
theorem RegA.patch {c : List Ins} {p : Nat} {J : List Nat} {v : Int} (h : RegA R (patchAt c p J v)) : RegA R c := by
  unfold RegA at *
  rw [patch_map (g := Ins.a) (fun _ _ => rfl)] at h
  exact h
end
/-- The places J hold jumps. -/
def BrkJ (p : Nat) (ops : List Int) (J : List Nat) : Prop := ∀ j ∈ J, p ≤ j ∧ ops[j - p]? = some 14
theorem BrkJ.nil (p : Nat) (ops : List Int) : BrkJ p ops [] := fun j hj => by cases hj
theorem BrkJ.app {p : Nat} {ops : List Int} {J K : List Nat} (h : BrkJ p ops J) (g : BrkJ p ops K) : BrkJ p ops (J ++ K) := fun j hj => by
  rcases List.mem_append.1 hj with hj | hj
  · exact h j hj
  · exact g j hj
theorem BrkJ.left {p : Nat} {a b : List Int} {J : List Nat} (h : BrkJ p a J) : BrkJ p (a ++ b) J := fun j hj => by
  obtain ⟨h1, h2⟩ := h j hj
  refine ⟨h1, ?_⟩
  rw [List.getElem?_append_left (List.getElem?_eq_some_iff.1 h2).1]
  exact h2
theorem BrkJ.right {p q : Nat} {a b : List Int} {J : List Nat} (h : BrkJ q b J) (hq : q = p + a.length) : BrkJ p (a ++ b) J := fun j hj => by
  obtain ⟨h1, h2⟩ := h j hj
  refine ⟨by omega, ?_⟩
  rw [List.getElem?_append_right (by omega), show j - p - a.length = j - q by omega]
  exact h2
theorem CodeS.patch {lim : Int} {G : Int → Int → Prop} {p : Nat} {v : Int} (hv : 0 ≤ v ∧ v ≤ lim) : ∀ (J : List Nat) (c : List Ins), CodeS lim G c → BrkJ p (c.map Ins.op) J → CodeS lim G (patchAt c p J v)
  | [], c, h, _ => h
  | j :: J, c, h, hj => by
    show CodeS lim G (patchAt (c.modify (j - p) fun x => { x with n := v }) p J v)
    have e : (c.modify (j - p) fun x => { x with n := v }).map Ins.op = c.map Ins.op := modify_map (g := Ins.op) (f := fun x => { x with n := v }) (fun x => rfl) c (j - p)
    refine CodeS.patch hv J _ (fun x hx => ?_) (fun i hi => by rw [e]; exact hj i (by simp [hi]))
    obtain ⟨i, hi⟩ := List.getElem?_of_mem hx
    rw [List.getElem?_modify] at hi
    cases hc : c[i]? with
    | none => rw [hc] at hi; simp at hi
    | some y =>
      rw [hc] at hi
      simp only [Option.map_eq_map, Option.map_some, Option.some.injEq] at hi
      have hy := h y (List.mem_of_getElem? hc)
      split at hi
      · rename_i e1
        have h2 := (hj j (by simp)).2
        rw [List.getElem?_map, e1, hc] at h2
        have h14 : y.op = 14 := by simpa using h2
        subst hi
        refine ⟨hy.op, hy.a, hy.b, hy.c, fun e => ?_, fun _ => hv, fun e => ?_, fun e => ?_⟩
        · have e : kindN y.op = 0 := e
          rw [h14] at e; exact absurd e (by decide)
        · have e : kindN y.op = 3 := e
          rw [h14] at e; exact absurd e (by decide)
        · have e : kindN y.op = 4 := e
          rw [h14] at e; exact absurd e (by decide)
      · subst hi; exact hy

/-! ### expressions -/
section
variable {V : GEnv} {F : ByteArray → Int} {Gl : List ByteArray} {ar : ByteArray → Int} {A : Int → Int → Prop} {R : Int} (hF : ∀ s ∈ Gl, A (F s) (ar s))
/-- A call's fields B and N: the function's arguments lie below R. -/
def CallS (A : Int → Int → Prop) (R : Int) (b n : Int) : Prop := ∃ k, A n k ∧ b + k ≤ R
/-- Code that may be, wherever it is laid; the register that it is for is named. -/
def GnS (A : Int → Int → Prop) (R : Int) (f : Gn) : Prop := ∀ (p : Nat) (t lim : Int), 0 ≤ t → RegA R (f p t) → ((p + (f p t).length : Nat) : Int) ≤ lim → CodeS lim (CallS A R) (f p t)
theorem gn_names (k n : Int) (s : ByteArray) (fs : List Gn) (p : Nat) (t : Int) : ∃ y ∈ gnOf V F k n s fs p t, y.a = t := by
  have h2 : ∃ y ∈ gnTwo k t, y.a = t := by
    unfold gnTwo
    repeat' split
    all_goals exact ⟨_, List.mem_append_left _ (List.mem_singleton.2 rfl), rfl⟩
  unfold gnOf
  simp only
  repeat' split
  · exact ⟨_, List.mem_singleton.2 rfl, rfl⟩
  · exact ⟨_, List.mem_singleton.2 rfl, rfl⟩
  · exact ⟨_, List.mem_append_right _ (List.mem_cons_self ..), rfl⟩
  · exact ⟨_, List.mem_append_right _ (List.mem_singleton.2 rfl), rfl⟩
  · exact ⟨⟨4, t, t + 1, t, 0⟩, List.mem_append_right _ (by simp), rfl⟩
  · exact ⟨_, List.mem_append_right _ (List.mem_singleton.2 rfl), rfl⟩
  · exact ⟨⟨10, t, t, 0, 0⟩, List.mem_append_right _ (by simp [gnBit]), rfl⟩
  · exact ⟨⟨10, t, t, 0, 0⟩, List.mem_append_right _ (by simp [gnBit]), rfl⟩
  · refine ⟨_, List.mem_append_left _ (List.mem_append_left _ (List.mem_append_left _ (List.mem_append_right _ (List.mem_singleton.2 rfl)))), rfl⟩
  · obtain ⟨y, hy, e⟩ := h2
    exact ⟨y, List.mem_append_right _ hy, e⟩
theorem gnCall_s : ∀ (fs : List Gn), (∀ f ∈ fs, GnS A R f ∧ ∀ p t, ∃ y ∈ f p t, y.a = t) → ∀ (p : Nat) (t lim : Int), 0 ≤ t → RegA R (gnCall fs p t) → ((p + (gnCall fs p t).length : Nat) : Int) ≤ lim →
    CodeS lim (CallS A R) (gnCall fs p t) ∧ (fs = [] ∨ t + fs.length ≤ R)
  | [], _, p, t, lim, _, _, _ => ⟨CodeS.nil, .inl rfl⟩
  | f :: fs, h, p, t, lim, ht, hr, hl => by
    simp only [gnCall] at hr hl ⊢
    simp only [List.length_append] at hl
    obtain ⟨h1, h2⟩ := h f (by simp)
    have i1 := h1 p t lim ht hr.left (by omega)
    obtain ⟨i2, i3⟩ := gnCall_s fs (fun g hg => h g (by simp [hg])) (p + (f p t).length) (t + 1) lim (by omega) hr.right (by omega)
    refine ⟨i1.app i2, .inr ?_⟩
    rcases i3 with rfl | i3
    · obtain ⟨y, hy, e⟩ := h2 p t
      have := hr.left.at hy
      simp only [List.length_cons, List.length_nil]
      omega
    · simp only [List.length_cons]
      omega
theorem getD_s {fs : List Gn} (h : ∀ f ∈ fs, GnS A R f) (i : Nat) : GnS A R (fs.getD i (fun _ _ => [])) := by
  rw [List.getD_eq_getElem?_getD]
  cases e : fs[i]? with
  | none => exact fun _ _ _ _ _ _ => CodeS.nil
  | some f => exact h f (List.mem_of_getElem? e)
theorem gnTwo_s {lim : Int} {G : Int → Int → Prop} (k : Int) {t : Int} (ht : 0 ≤ t) : CodeS lim G (gnTwo k t) := by
  unfold gnTwo
  refine CodeS.app ?_ ?_
  · repeat' split
    all_goals exact .one (is_three (by decide) ht (by omega) (by omega))
  · split
    · exact .one (is_not ht ht)
    · exact .nil
theorem gnBit_s {lim : Int} {G : Int → Int → Prop} {t : Int} (ht : 0 ≤ t) : CodeS lim G (gnBit t) := .cons (is_not ht ht) (.one (is_not ht ht))
include hF in
theorem gnOf_s (hV : ∀ s, 0 ≤ (V s).reg) (k n : Int) (s : ByteArray) (fs : List Gn) (h3 : k = 3 → 1 ≤ (V s).size ∧ (V s).size ≤ 4096) (h4 : k = 4 → s ∈ Gl ∧ ar s = fs.length) (h : ∀ f ∈ fs, GnS A R f ∧ ∀ p t, ∃ y ∈ f p t, y.a = t) : GnS A R (gnOf V F k n s fs) := by
  have hd := getD_s (fun f hf => (h f hf).1)
  intro p t lim ht hr hl
  obtain ⟨y, hy, hya⟩ := gn_names (V := V) (F := F) k n s fs p t
  have htR := hr.at hy
  rw [hya] at htR
  clear hy hya
  have hc := gnCall_s fs h p t
  unfold gnOf at hr hl ⊢
  obtain ⟨a, ha⟩ : ∃ a, a = fs.getD 0 (fun _ _ => []) := ⟨_, rfl⟩
  obtain ⟨b, hb⟩ : ∃ b, b = fs.getD 1 (fun _ _ => []) := ⟨_, rfl⟩
  obtain ⟨c, hcc⟩ : ∃ c, c = fs.getD 2 (fun _ _ => []) := ⟨_, rfl⟩
  have da := hd 0
  have db := hd 1
  have dc := hd 2
  rw [← ha] at da
  rw [← hb] at db
  rw [← hcc] at dc
  simp only [← ha, ← hb, ← hcc] at hr hl ⊢
  clear ha hb hcc hd
  by_cases e1 : k = 1
  · simp only [if_pos e1]; exact .one (is_set ht)
  simp only [if_neg e1] at hr hl ⊢
  by_cases e2 : k = 2
  · simp only [if_pos e2]; exact .one (is_move ht (hV s))
  simp only [if_neg e2] at hr hl ⊢
  by_cases e3 : k = 3
  · simp only [if_pos e3, List.length_append, List.length_cons, List.length_nil] at hr hl ⊢
    exact (da p t lim ht hr.left (by omega)).app (.cons (is_check ht (h3 e3)) (.one (is_load ht ht)))
  simp only [if_neg e3] at hr hl ⊢
  by_cases e4 : k = 4
  · simp only [if_pos e4, List.length_append, List.length_cons, List.length_nil] at hr hl ⊢
    obtain ⟨i1, i2⟩ := hc lim ht hr.left (by omega)
    obtain ⟨m1, m2⟩ := h4 e4
    refine i1.app (.one (is_call ht ht ⟨_, hF s m1, ?_⟩))
    rw [m2]
    rcases i2 with rfl | i2
    · simp; omega
    · exact i2
  simp only [if_neg e4] at hr hl ⊢
  by_cases e5 : k = 5
  · simp only [if_pos e5, List.length_append, List.length_cons, List.length_nil] at hr hl ⊢
    exact (da p t lim ht hr.left (by omega)).app (.cons (is_set (by omega)) (.one (is_three (by decide) ht (by omega) ht)))
  simp only [if_neg e5] at hr hl ⊢
  by_cases e6 : k = 6
  · simp only [if_pos e6, List.length_append, List.length_cons, List.length_nil] at hr hl ⊢
    exact (da p t lim ht hr.left (by omega)).app (.one (is_not ht ht))
  simp only [if_neg e6] at hr hl ⊢
  by_cases e18 : k = 18
  · simp only [if_pos e18, List.length_append, List.length_cons, List.length_nil, gnBit_len] at hr hl ⊢
    refine (((da p t lim ht hr.left.left.left (by omega)).app (.one (is_unless ht ?_))).app (db _ t lim ht hr.left.right (by omega))).app (gnBit_s ht)
    omega
  simp only [if_neg e18] at hr hl ⊢
  by_cases e19 : k = 19
  · simp only [if_pos e19, List.length_append, List.length_cons, List.length_nil, gnBit_len] at hr hl ⊢
    refine ((((da p t lim ht hr.left.left.left.left (by omega)).app (gnBit_s ht)).app (.one (is_if ht ?_))).app (db _ t lim ht hr.left.right (by omega))).app (gnBit_s ht)
    omega
  simp only [if_neg e19] at hr hl ⊢
  by_cases e20 : k = 20
  · simp only [if_pos e20, List.length_append, List.length_cons, List.length_nil] at hr hl ⊢
    refine ((((da p t lim ht hr.left.left.left.left (by omega)).app (.one (is_unless ht ?_))).app (db _ t lim ht hr.left.left.right (by omega))).app (.one (is_jump ?_))).app (dc _ t lim ht hr.right (by omega))
    · omega
    · omega
  simp only [if_neg e20, List.length_append] at hr hl ⊢
  exact ((da p t lim ht hr.left.left (by omega)).app (db _ (t + 1) lim (by omega) hr.left.right (by omega))).app (gnTwo_s k ht)
theorem gns_length (l : List Ex) : (Ex.gns V F l).length = l.length := by
  induction l with
  | nil => rfl
  | cons x l ih => simp [Ex.gns, ih]
end
mutual
theorem Ex.gn_s {V : GEnv} {F : ByteArray → Int} {Gl : List ByteArray} {ar : ByteArray → Int} {A : Int → Int → Prop} {R : Int} {K : Known} (hF : ∀ s ∈ Gl, A (F s) (ar s)) (hV : ∀ s, 0 ≤ (V s).reg) (h3 : ∀ s, kindOf K s = 3 → 1 ≤ (V s).size ∧ (V s).size ≤ 4096) : ∀ (x : Ex), x.nerr K Gl = 0 → x.evr (cntQ ar) = true → GnS A R (x.gn V F) ∧ ∀ p t, ∃ y ∈ x.gn V F p t, y.a = t
  | .mk k n s l, h, hc => by
    simp only [Ex.nerr] at h
    simp only [Ex.evr, Bool.and_eq_true] at hc
    by_cases h0 : (Ex.mk k n s l).nown K Gl = 0
    · rw [if_neg (by rw [h0]; decide)] at h
      have ih := Ex.gns_s (R := R) hF hV h3 l h hc.2
      have h0 : (if k = 2 then needE K s false else if k = 3 then needE K s true else if k = 4 ∧ s ∉ Gl then 8 else 0) = 0 := h0
      simp only [Ex.gn]
      refine ⟨gnOf_s hF hV k n s _ (fun e => h3 s ?_) (fun e => ⟨?_, ?_⟩) ih, fun p t => gn_names k n s _ p t⟩
      · rw [if_neg (by omega), if_pos e] at h0
        unfold needE at h0
        split at h0
        · omega
        · split at h0
          · omega
          · rename_i h2
            simpa using h2
      · rw [if_neg (by omega), if_neg (by omega)] at h0
        by_cases hs : s ∈ Gl
        · exact hs
        · rw [if_pos ⟨e, hs⟩] at h0; exact absurd h0 (by decide)
      · have h5 := hc.1
        unfold cntQ at h5
        rw [Bool.or_eq_true] at h5
        rw [gns_length]
        rcases h5 with h5 | h5
        · exact absurd e (of_decide_eq_true h5)
        · exact (of_decide_eq_true h5).symm
    · rw [if_pos h0] at h; exact absurd h h0
theorem Ex.gns_s {V : GEnv} {F : ByteArray → Int} {Gl : List ByteArray} {ar : ByteArray → Int} {A : Int → Int → Prop} {R : Int} {K : Known} (hF : ∀ s ∈ Gl, A (F s) (ar s)) (hV : ∀ s, 0 ≤ (V s).reg) (h3 : ∀ s, kindOf K s = 3 → 1 ≤ (V s).size ∧ (V s).size ≤ 4096) : ∀ (l : List Ex), Ex.nerrs K Gl l = 0 → Ex.evrs (cntQ ar) l = true → ∀ f ∈ Ex.gns V F l, GnS A R f ∧ ∀ p t, ∃ y ∈ f p t, y.a = t
  | [], _, _, f, hf => by simp only [Ex.gns] at hf; cases hf
  | x :: l, h, hc, f, hf => by
    simp only [Ex.nerrs] at h
    simp only [Ex.evrs, Bool.and_eq_true] at hc
    simp only [Ex.gns] at hf
    by_cases h0 : x.nerr K Gl = 0
    · rw [if_neg (by rw [h0]; decide)] at h
      rcases List.mem_cons.1 hf with hf | hf
      · subst hf; exact Ex.gn_s hF hV h3 x h0 hc.1
      · exact Ex.gns_s hF hV h3 l h hc.2 f hf
    · rw [if_pos h0] at h; exact absurd h h0
end

/-! ### statements -/
theorem del_same : ∀ (l : List ByteArray) (V : GEnv) (s : ByteArray), s ∉ l → V.del l s = V s
  | [], _, _, _ => rfl
  | y :: l, V, s, h => by
    show (V.put y noPlc).del l s = V s
    rw [del_same l _ s (fun e => h (by simp [e]))]
    unfold GEnv.put
    rw [if_neg (fun e => h (by simp [e]))]
theorem put_reg {V : GEnv} (h : ∀ s, 0 ≤ (V s).reg) (y : ByteArray) {q : Plc} (hq : 0 ≤ q.reg) : ∀ s, 0 ≤ (V.put y q s).reg := fun s => by
  unfold GEnv.put
  split
  · exact hq
  · exact h s
theorem del_reg : ∀ (l : List ByteArray) (V : GEnv), (∀ s, 0 ≤ (V s).reg) → ∀ s, 0 ≤ (V.del l s).reg
  | [], _, h => h
  | y :: l, V, h => del_reg l _ (put_reg h y (by decide))
/-- What a list's or a statement's code comes to where it may be. -/
structure OutS (A : Int → Int → Prop) (R : Int) (K : Known) (V : GEnv) (wd : Int) (p : Nat) (ns : List ByteArray) (tot : Nat) (o : GOut) : Prop where
  code : ∀ lim : Int, ((p + o.code.length : Nat) : Int) ≤ lim → CodeS lim (CallS A R) o.code
  brk : BrkJ p (o.code.map Ins.op) o.brk
  reg : ∀ s, 0 ≤ (o.V s).reg
  same : ∀ s, kindOf K s ≠ 0 → s ∉ ns → o.V s = V s
  w0 : wd ≤ o.words
  w1 : o.words ≤ wd + 1024 * (tot : Int)
/-- What is known of the variables. -/
structure VarS (K : Known) (V : GEnv) : Prop where
  kn : ∀ q ∈ K, q.2 ≠ 0
  reg : ∀ s, 0 ≤ (V s).reg
  size : ∀ s, kindOf K s = 3 → 1 ≤ (V s).size ∧ (V s).size ≤ 4096
theorem VarS.out {A : Int → Int → Prop} {R wd : Int} {K : Known} {V : GEnv} {p tot : Nat} {o : GOut} (h : VarS K V) (g : OutS A R K V wd p [] tot o) : VarS K o.V :=
  ⟨h.kn, g.reg, fun s hs => by rw [g.same s (by omega) (by simp)]; exact h.size s hs⟩
theorem VarS.add {K : Known} {V : GEnv} (h : VarS K V) {y : ByteArray} (hy : kindOf K y = 0) {z : Int} (hz : z ≠ 0) {q : Plc} (hq : 0 ≤ q.reg) (h3 : z = 3 → 1 ≤ q.size ∧ q.size ≤ 4096) : VarS (K ++ [(y, z)]) (V.put y q) := by
  refine ⟨fun r hr => ?_, put_reg h.reg y hq, fun s hs => ?_⟩
  · rcases List.mem_append.1 hr with hr | hr
    · exact h.kn r hr
    · simp at hr; subst hr; exact hz
  · rw [kindOf_append _ _ _ h.kn] at hs
    unfold GEnv.put
    by_cases e : s = y
    · subst e
      rw [if_pos rfl]
      rw [if_neg (by rw [hy]; decide)] at hs
      simp only [kindOf, if_pos] at hs
      exact h3 hs
    · rw [if_neg e]
      split at hs
      · exact h.size s hs
      · simp only [kindOf, if_neg (fun e2 : y = s => e e2.symm)] at hs
        exact absurd hs (by decide)
theorem add_known {K : Known} (hk : ∀ q ∈ K, q.2 ≠ 0) {s y : ByteArray} {z : Int} (h : kindOf K s ≠ 0) : kindOf (K ++ [(y, z)]) s ≠ 0 := by
  rw [kindOf_append _ _ _ hk, if_pos h]; exact h
theorem St.rown_two {RB : List ByteArray} {ar : ByteArray → Int} {x : St} (h : x.rown RB ar = 0) : (x.kind = 2 → 1 ≤ x.n ∧ x.n ≤ 1024) ∧ x.a.evr (cntQ ar) = true ∧ x.b.evr (cntQ ar) = true := by
  unfold St.rown at h
  split at h
  · omega
  split at h
  · omega
  split at h
  · omega
  split at h
  · rename_i h1 _ _ h2
    exact ⟨fun e => by omega, h2⟩
  · omega
theorem needE_arr {K : Known} {s : ByteArray} (h : needE K s true = 0) : kindOf K s = 3 := by
  unfold needE at h
  split at h
  · omega
  · split at h
    · omega
    · rename_i h2
      simpa using h2
theorem gw_eq {z : Int} (h0 : 0 ≤ z) (h1 : z ≤ 4611686018427387904) : gw64 z = z := by unfold gw64 wrap64; omega
mutual
theorem St.gn_ok {F : ByteArray → Int} {Gl : List ByteArray} {ar : ByteArray → Int} {A : Int → Int → Prop} {R : Int} (hF : ∀ s ∈ Gl, A (F s) (ar s)) : ∀ (x : St) (K : Known) (loops : Int) (RB : List ByteArray) (V : GEnv) (wd : Int) (p : Nat) (n : Int),
    x.kind ≠ 1 → x.kind ≠ 2 → (x.nchk K Gl loops).2 = 0 → (x.rchk RB ar).2 = 0 → VarS K V → 0 ≤ n → 0 ≤ wd → wd + 1024 * (x.total : Int) ≤ 4611686018427387904 → RegA R (St.gn F x V wd p n).code → OutS A R K V wd p [] x.total (St.gn F x V wd p n)
  | .mk k s z a b body els cases, K, loops, RB, V, wd, p, n, hk1, hk2, hn, hr, hV, h0, hw0, hw1, hreg => by
    have hk1 : k ≠ 1 := hk1
    have hk2 : k ≠ 2 := hk2
    rw [St.nchk_eq] at hn
    rw [St.rchk_eq] at hr
    obtain ⟨hn1, hn2⟩ := after_two hn
    obtain ⟨hr1, hr2⟩ := after_two hr
    obtain ⟨hr3, hr4⟩ := after_two hr2
    obtain ⟨hr5, hr6⟩ := after_two hr4
    obtain ⟨ld, hld⟩ : ∃ ld : Int, ld = if k = 3 then (if needE K s false ≠ 0 then needE K s false else if kindOf K s = 4 then 31 else 0) else if k = 4 then needE K s true else 0 := ⟨_, rfl⟩
    have hn1 : (if k = 8 then (if loops = 0 then 32 else 0) else if k = 2 then 0 else if ld ≠ 0 then ld else if a.nerr K Gl ≠ 0 then a.nerr K Gl else if k = 4 ∨ k = 7 then b.nerr K Gl else 0) = 0 := by rw [hld]; exact hn1
    have hn2 : (if k = 7 then (if kindOf K s ≠ 0 then ((0, 9) : Nat × Int) else St.nchks (K ++ [(s, 4)]) Gl (loops + 1) body)
       else if (k = 1 ∨ k = 2) ∧ kindOf K s ≠ 0 then (0, 9)
       else after (St.nchks (St.nadd K (.mk k s z a b body els cases)) Gl loops body) (after (Cs.nchks (St.nadd K (.mk k s z a b body els cases)) Gl loops cases) (St.nchks (St.nadd K (.mk k s z a b body els cases)) Gl loops els))).2 = 0 := hn2
    have hadd : St.nadd K (.mk k s z a b body els cases) = K := by
      show (if k = 1 then K ++ [(s, 2)] else if k = 2 then K ++ [(s, 3)] else K) = K
      rw [if_neg hk1, if_neg hk2]
    rw [hadd] at hn2
    rw [if_neg hk2] at hn1
    obtain ⟨_, he1, he2⟩ := St.rown_two hr1
    have he1 : a.evr (cntQ ar) = true := he1
    have he2 : b.evr (cntQ ar) = true := he2
    have hr3 : (St.rchks (St.radd RB (.mk k s z a b body els cases)) ar body).2 = 0 := hr3
    have hr5 : (Cs.rchks (St.radd RB (.mk k s z a b body els cases)) ar cases).2 = 0 := hr5
    have hr6 : (St.rchks (St.radd RB (.mk k s z a b body els cases)) ar els).2 = 0 := hr6
    obtain ⟨RB', hRB⟩ : ∃ RB', RB' = St.radd RB (.mk k s z a b body els cases) := ⟨_, rfl⟩
    rw [← hRB] at hr3 hr5 hr6
    have ht := St.total_eq (.mk k s z a b body els cases)
    have ht : (St.mk k s z a b body els cases).total = 1 + a.part + b.part + St.totals body + Cs.totals cases + St.totals els := ht
    rw [ht] at hw1 ⊢
    clear hr1 hr2 hr4 hr hn hRB ht hadd
    simp only [St.gn, gnSt] at hreg ⊢
    by_cases e8 : k = 8
    · have e7 : k ≠ 7 := by omega
      simp only [if_neg e7, if_pos e8] at hreg ⊢
      refine ⟨fun lim hl => .one (is_jump ⟨by omega, by simp at hl; omega⟩), fun j hj => ?_, hV.reg, fun _ _ _ => rfl, by show wd ≤ wd; omega, by show wd ≤ _; omega⟩
      simp at hj; subst hj
      simp
    rw [if_neg e8] at hn1
    have hl0 : ld = 0 := by
      by_cases e : ld = 0
      · exact e
      · rw [if_pos e] at hn1; exact hn1
    rw [if_neg (fun e => e hl0)] at hn1
    have hna : a.nerr K Gl = 0 := by
      by_cases e : a.nerr K Gl = 0
      · exact e
      · rw [if_pos e] at hn1; exact absurd hn1 e
    rw [if_neg (fun e => e hna)] at hn1
    have hnb : k = 4 ∨ k = 7 → b.nerr K Gl = 0 := fun h47 => by rw [if_pos h47] at hn1; exact hn1
    have h4s : k = 4 → kindOf K s = 3 := fun e => by
      rw [hl0, if_neg (by omega), if_pos e] at hld
      exact needE_arr hld.symm
    have ga := (Ex.gn_s (R := R) hF hV.reg hV.size a hna he1).1
    have gb := fun h => (Ex.gn_s (R := R) hF hV.reg hV.size b (hnb h) he2).1
    clear hn1
    obtain ⟨ca, hca⟩ : ∃ ca, ca = a.gn V F p n := ⟨_, rfl⟩
    have ga := fun lim => ga p n lim h0
    rw [← hca] at ga
    simp only [← hca] at hreg ⊢
    by_cases e7 : k = 7
    · rw [if_pos e7] at hn2
      simp only [if_pos e7] at hreg ⊢
      by_cases hks : kindOf K s = 0
      · rw [if_neg (fun e => e hks)] at hn2
        obtain ⟨cb, hcb⟩ : ∃ cb, cb = b.gn V F (p + ca.length) (n + 1) := ⟨_, rfl⟩
        have gb := fun lim => gb (.inr e7) (p + ca.length) (n + 1) lim (by omega)
        rw [← hcb] at gb
        simp only [← hcb] at hreg ⊢
        have hV2 := hV.add hks (z := 4) (by decide) (q := ⟨n, 0, 0⟩) h0 (fun e => absurd e (by decide))
        have ih := St.gns_ok hF body (K ++ [(s, 4)]) (loops + 1) RB' (V.put s ⟨n, 0, 0⟩) wd (p + ca.length + cb.length + 1) (n + 2) [] hn2 hr3 hV2 (by omega) hw0 (by omega) hreg.left.right.patch
        obtain ⟨o, ho⟩ : ∃ o, o = St.gns F body (V.put s ⟨n, 0, 0⟩) wd (p + ca.length + cb.length + 1) (n + 2) [] := ⟨_, rfl⟩
        rw [← ho] at ih
        simp only [← ho] at hreg ⊢
        refine ⟨fun lim hl => ?_, BrkJ.nil _ _, put_reg ih.reg s (by decide), fun y hy _ => ?_, ih.w0, by have := ih.w1; show o.words ≤ _; omega⟩
        · simp only [List.length_append, List.length_cons, List.length_nil, patch_len] at hl
          refine ((((ga lim hreg.left.left.left.left (by omega)).app (gb lim hreg.left.left.left.right (by omega))).app (.one (is_count h0 (by omega) ⟨by omega, by omega⟩))).app (CodeS.patch ⟨by omega, by omega⟩ _ _ (ih.code lim (by omega)) ih.brk)).app (.one (is_step h0 ⟨by omega, by omega⟩))
        · show (o.V.put s noPlc) y = V y
          have hys : y ≠ s := fun e => by rw [e, hks] at hy; exact hy rfl
          unfold GEnv.put
          rw [if_neg hys, ih.same y (add_known hV.kn hy) (by simp)]
          unfold GEnv.put
          rw [if_neg hys]
      · rw [if_pos hks] at hn2; exact absurd hn2 (by decide)
    rw [if_neg e7, if_neg (by rintro ⟨e | e, _⟩ <;> omega)] at hn2
    obtain ⟨hb1, hb2⟩ := after_two hn2
    obtain ⟨hb3, hb4⟩ := after_two hb2
    simp only [if_neg e7, if_neg e8] at hreg ⊢
    by_cases e3 : k = 3
    · simp only [if_pos e3] at hreg ⊢
      refine ⟨fun lim hl => ?_, BrkJ.nil _ _, hV.reg, fun _ _ _ => rfl, by show wd ≤ wd; omega, by show wd ≤ _; omega⟩
      simp only [List.length_append, List.length_cons, List.length_nil] at hl
      exact (ga lim hreg.left (by omega)).app (.one (is_move (hV.reg s) h0))
    simp only [if_neg e3] at hreg ⊢
    by_cases e4 : k = 4
    · simp only [if_pos e4] at hreg ⊢
      obtain ⟨cb, hcb⟩ : ∃ cb, cb = b.gn V F (p + ca.length + 1) (n + 1) := ⟨_, rfl⟩
      have gb := fun lim => gb (.inl e4) (p + ca.length + 1) (n + 1) lim (by omega)
      rw [← hcb] at gb
      simp only [← hcb] at hreg ⊢
      refine ⟨fun lim hl => ?_, BrkJ.nil _ _, hV.reg, fun _ _ _ => rfl, by show wd ≤ wd; omega, by show wd ≤ _; omega⟩
      simp only [List.length_append, List.length_cons, List.length_nil] at hl
      exact (((ga lim hreg.left.left.left (by omega)).app (.one (is_check h0 (hV.size s (h4s e4))))).app (gb lim hreg.left.right (by omega))).app (.one (is_store (by omega) h0))
    simp only [if_neg e4] at hreg ⊢
    by_cases e5 : k = 5
    · simp only [if_pos e5] at hreg ⊢
      have ih := St.gns_ok hF body K loops RB' V wd (p + ca.length + 1) n [] hb1 hr3 hV h0 hw0 (by omega) hreg.left.left.right
      obtain ⟨o, ho⟩ : ∃ o, o = St.gns F body V wd (p + ca.length + 1) n [] := ⟨_, rfl⟩
      rw [← ho] at ih
      simp only [← ho] at hreg ⊢
      have j1 := ih.w0
      have j2 := ih.w1
      cases hE : els.isEmpty with
      | true =>
        simp only [hE, if_true] at hreg ⊢
        have ih2 := St.gns_ok hF els K loops RB' o.V o.words (p + ca.length + 1 + o.code.length) n [] hb4 hr6 (hV.out ih) h0 (by omega) (by omega) hreg.right
        obtain ⟨o2, ho2⟩ : ∃ o2, o2 = St.gns F els o.V o.words (p + ca.length + 1 + o.code.length) n [] := ⟨_, rfl⟩
        rw [← ho2] at ih2
        simp only [← ho2] at hreg ⊢
        refine ⟨fun lim hl => ?_, ?_, ih2.reg, fun y hy hy2 => (ih2.same y hy hy2).trans (ih.same y hy hy2), by have := ih2.w0; show wd ≤ o2.words; omega, by have := ih2.w1; show o2.words ≤ _; omega⟩
        · simp only [List.length_append, List.length_cons, List.length_nil] at hl
          exact ((((ga lim hreg.left.left.left.left (by omega)).app (.one (is_unless h0 ⟨by omega, by omega⟩))).app (ih.code lim (by omega))).app .nil).app (ih2.code lim (by omega))
        · simp only [List.map_append]
          refine BrkJ.app (BrkJ.left (BrkJ.left (BrkJ.right ih.brk ?_))) (BrkJ.right ih2.brk ?_)
          · simp; omega
          · simp; omega
      | false =>
        simp only [hE, Bool.false_eq_true, if_false] at hreg ⊢
        have ih2 := St.gns_ok hF els K loops RB' o.V o.words (p + ca.length + 1 + o.code.length + 1) n [] hb4 hr6 (hV.out ih) h0 (by omega) (by omega) hreg.right
        obtain ⟨o2, ho2⟩ : ∃ o2, o2 = St.gns F els o.V o.words (p + ca.length + 1 + o.code.length + 1) n [] := ⟨_, rfl⟩
        rw [← ho2] at ih2
        simp only [← ho2] at hreg ⊢
        refine ⟨fun lim hl => ?_, ?_, ih2.reg, fun y hy hy2 => (ih2.same y hy hy2).trans (ih.same y hy hy2), by have := ih2.w0; show wd ≤ o2.words; omega, by have := ih2.w1; show o2.words ≤ _; omega⟩
        · simp only [List.length_append, List.length_cons, List.length_nil] at hl
          exact ((((ga lim hreg.left.left.left.left (by omega)).app (.one (is_unless h0 ⟨by omega, by omega⟩))).app (ih.code lim (by omega))).app (.one (is_jump ⟨by omega, by omega⟩))).app (ih2.code lim (by omega))
        · simp only [List.map_append]
          refine BrkJ.app (BrkJ.left (BrkJ.left (BrkJ.right ih.brk ?_))) (BrkJ.right ih2.brk ?_)
          · simp; omega
          · simp; omega
    simp only [if_neg e5] at hreg ⊢
    by_cases e6 : k = 6
    · simp only [if_pos e6] at hreg ⊢
      obtain ⟨ih, ihb⟩ := Cs.gns_ok hF cases K loops RB' V wd (p + ca.length) n hb3 hr5 hV h0 hw0 (by omega) hreg.left.right.patch
      obtain ⟨o, ho⟩ : ∃ o, o = Cs.gns F cases V wd (p + ca.length) n := ⟨_, rfl⟩
      rw [← ho] at ih ihb
      simp only [← ho] at hreg ⊢
      have j1 := ih.w0
      have j2 := ih.w1
      have ih2 := St.gns_ok hF els K loops RB' o.1.V o.1.words (p + ca.length + o.1.code.length) n [] hb4 hr6 (hV.out ih) h0 (by omega) (by omega) hreg.right
      obtain ⟨o2, ho2⟩ : ∃ o2, o2 = St.gns F els o.1.V o.1.words (p + ca.length + o.1.code.length) n [] := ⟨_, rfl⟩
      rw [← ho2] at ih2
      simp only [← ho2] at hreg ⊢
      refine ⟨fun lim hl => ?_, ?_, ih2.reg, fun y hy hy2 => (ih2.same y hy hy2).trans (ih.same y hy hy2), by have := ih2.w0; show wd ≤ o2.words; omega, by have := ih2.w1; show o2.words ≤ _; omega⟩
      · simp only [List.length_append, patch_len] at hl
        exact ((ga lim hreg.left.left (by omega)).app (CodeS.patch ⟨by omega, by omega⟩ _ _ (ih.code lim (by omega)) ihb)).app (ih2.code lim (by omega))
      · simp only [List.map_append, patch_map (g := Ins.op) (fun _ _ => rfl)]
        refine BrkJ.app (BrkJ.left (BrkJ.right ih.brk ?_)) (BrkJ.right ih2.brk ?_)
        · simp
        · simp; omega
    simp only [if_neg e6] at hreg ⊢
    by_cases e9 : k = 9
    · simp only [if_pos e9] at hreg ⊢
      refine ⟨fun lim hl => ?_, BrkJ.nil _ _, hV.reg, fun _ _ _ => rfl, by show wd ≤ wd; omega, by show wd ≤ _; omega⟩
      simp only [List.length_append, List.length_cons, List.length_nil] at hl
      exact (ga lim hreg.left (by omega)).app (.one (is_ret h0))
    simp only [if_neg e9] at hreg ⊢
    exact ⟨fun lim hl => ga lim hreg hl, BrkJ.nil _ _, hV.reg, fun _ _ _ => rfl, by show wd ≤ wd; omega, by show wd ≤ _; omega⟩
theorem St.gns_ok {F : ByteArray → Int} {Gl : List ByteArray} {ar : ByteArray → Int} {A : Int → Int → Prop} {R : Int} (hF : ∀ s ∈ Gl, A (F s) (ar s)) : ∀ (l : List St) (K : Known) (loops : Int) (RB : List ByteArray) (V : GEnv) (wd : Int) (p : Nat) (n : Int) (ns : List ByteArray),
    (St.nchks K Gl loops l).2 = 0 → (St.rchks RB ar l).2 = 0 → VarS K V → 0 ≤ n → 0 ≤ wd → wd + 1024 * (St.totals l : Int) ≤ 4611686018427387904 → RegA R (St.gns F l V wd p n ns).code → OutS A R K V wd p ns (St.totals l) (St.gns F l V wd p n ns)
  | [], K, loops, RB, V, wd, p, n, ns, hn, hr, hV, h0, hw0, hw1, hreg => by
    simp only [St.gns, St.totals]
    exact ⟨fun _ _ => .nil, BrkJ.nil _ _, del_reg ns V hV.reg, fun s _ h => del_same ns V s h, by show wd ≤ wd; omega, by show wd ≤ wd + _; omega⟩
  | x :: l, K, loops, RB, V, wd, p, n, ns, hn, hr, hV, h0, hw0, hw1, hreg => by
    simp only [St.nchks] at hn
    simp only [St.rchks] at hr
    obtain ⟨hn1, hn2⟩ := after_two hn
    obtain ⟨hr1, hr2⟩ := after_two hr
    simp only [St.totals] at hw1 ⊢
    simp only [St.gns] at hreg ⊢
    by_cases e1 : x.kind = 1
    · simp only [if_pos e1] at hreg ⊢
      rw [St.nchk_eq] at hn1
      rw [St.rchk_eq] at hr1
      obtain ⟨hf, hg⟩ := after_two hn1
      obtain ⟨ho, _⟩ := after_two hr1
      obtain ⟨_, he1, _⟩ := St.rown_two ho
      rw [if_neg (by omega)] at hg
      have hks : kindOf K x.name = 0 := by
        by_cases e : kindOf K x.name = 0
        · exact e
        · rw [if_pos ⟨.inl e1, e⟩] at hg; exact absurd hg (by decide)
      have hna : x.a.nerr K Gl = 0 := by
        have h1 : x.nfirst K Gl loops = 0 := hf
        have hl : x.nlead K = 0 := by unfold St.nlead; rw [if_neg (by omega), if_neg (by omega)]
        unfold St.nfirst at h1
        rw [if_neg (by omega), if_neg (by omega), if_neg (fun e => e hl)] at h1
        by_cases e : x.a.nerr K Gl = 0
        · exact e
        · rw [if_pos e] at h1; exact absurd h1 e
      have hadd : x.nadd K = K ++ [(x.name, 2)] := by unfold St.nadd; rw [if_pos e1]
      rw [hadd] at hn2
      have ga := fun lim => (Ex.gn_s (R := R) hF hV.reg hV.size x.a hna he1).1 p n lim h0
      obtain ⟨ca, hca⟩ : ∃ ca, ca = x.a.gn V F p n := ⟨_, rfl⟩
      rw [← hca] at ga
      simp only [← hca] at hreg ⊢
      have ih := St.gns_ok hF l _ loops RB (V.put x.name ⟨n, 0, 0⟩) wd (p + ca.length) (n + 1) (ns ++ [x.name]) hn2 hr2 (hV.add hks (by decide) h0 (fun e => absurd e (by decide))) (by omega) hw0 (by omega) hreg.right
      obtain ⟨o, ho⟩ : ∃ o, o = St.gns F l (V.put x.name ⟨n, 0, 0⟩) wd (p + ca.length) (n + 1) (ns ++ [x.name]) := ⟨_, rfl⟩
      rw [← ho] at ih
      simp only [← ho] at hreg ⊢
      refine ⟨fun lim hl => ?_, ?_, ih.reg, fun y hy hy2 => ?_, ih.w0, by have := ih.w1; show o.words ≤ _; omega⟩
      · simp only [List.length_append] at hl
        exact (ga lim hreg.left (by omega)).app (ih.code lim (by omega))
      · simp only [List.map_append]
        exact BrkJ.right ih.brk (by simp)
      · have hys : y ≠ x.name := fun e => by rw [e, hks] at hy; exact hy rfl
        show o.V y = V y
        rw [ih.same y (add_known hV.kn hy) (by simp [hy2, hys])]
        unfold GEnv.put
        rw [if_neg hys]
    simp only [if_neg e1] at hreg ⊢
    by_cases e2 : x.kind = 2
    · simp only [if_pos e2] at hreg ⊢
      rw [St.nchk_eq] at hn1
      rw [St.rchk_eq] at hr1
      obtain ⟨hf, hg⟩ := after_two hn1
      obtain ⟨ho, _⟩ := after_two hr1
      obtain ⟨hz, _, _⟩ := St.rown_two ho
      have hz := hz e2
      rw [if_neg (by omega)] at hg
      have hks : kindOf K x.name = 0 := by
        by_cases e : kindOf K x.name = 0
        · exact e
        · rw [if_pos ⟨.inr e2, e⟩] at hg; exact absurd hg (by decide)
      have hadd : x.nadd K = K ++ [(x.name, 3)] := by unfold St.nadd; rw [if_neg e1, if_pos e2]
      rw [hadd] at hn2
      have htx := St.total_eq x
      have hgw : gw64 (wd + x.n) = wd + x.n := gw_eq (by omega) (by omega)
      rw [hgw] at hreg ⊢
      have ih := St.gns_ok hF l _ loops RB (V.put x.name ⟨0, wd, x.n⟩) (wd + x.n) p n (ns ++ [x.name]) hn2 hr2 (hV.add hks (by decide) (q := ⟨0, wd, x.n⟩) (by show (0 : Int) ≤ 0; decide) (fun _ => by show 1 ≤ x.n ∧ x.n ≤ 4096; omega)) h0 (by omega) (by omega) hreg
      refine ⟨ih.code, ih.brk, ih.reg, fun y hy hy2 => ?_, by have := ih.w0; omega, by have := ih.w1; omega⟩
      have hys : y ≠ x.name := fun e => by rw [e, hks] at hy; exact hy rfl
      rw [ih.same y (add_known hV.kn hy) (by simp [hy2, hys])]
      unfold GEnv.put
      rw [if_neg hys]
    simp only [if_neg e2] at hreg ⊢
    have hadd : x.nadd K = K := by unfold St.nadd; rw [if_neg e1, if_neg e2]
    rw [hadd] at hn2
    have i1 := St.gn_ok hF x K loops RB V wd p n e1 e2 hn1 hr1 hV h0 hw0 (by omega) hreg.left
    obtain ⟨o, ho⟩ : ∃ o, o = St.gn F x V wd p n := ⟨_, rfl⟩
    rw [← ho] at i1
    simp only [← ho] at hreg ⊢
    have j1 := i1.w0
    have j2 := i1.w1
    have i2 := St.gns_ok hF l K loops RB o.V o.words (p + o.code.length) n ns hn2 hr2 (hV.out i1) h0 (by omega) (by omega) hreg.right
    obtain ⟨o2, ho2⟩ : ∃ o2, o2 = St.gns F l o.V o.words (p + o.code.length) n ns := ⟨_, rfl⟩
    rw [← ho2] at i2
    simp only [← ho2] at hreg ⊢
    refine ⟨fun lim hl => ?_, ?_, i2.reg, fun y hy hy2 => (i2.same y hy hy2).trans (i1.same y hy (by simp)), by have := i2.w0; show wd ≤ o2.words; omega, by have := i2.w1; show o2.words ≤ _; omega⟩
    · simp only [List.length_append] at hl
      exact (i1.code lim (by omega)).app (i2.code lim (by omega))
    · simp only [List.map_append]
      exact BrkJ.app (BrkJ.left i1.brk) (BrkJ.right i2.brk (by simp))
theorem Cs.gns_ok {F : ByteArray → Int} {Gl : List ByteArray} {ar : ByteArray → Int} {A : Int → Int → Prop} {R : Int} (hF : ∀ s ∈ Gl, A (F s) (ar s)) : ∀ (l : List Cs) (K : Known) (loops : Int) (RB : List ByteArray) (V : GEnv) (wd : Int) (p : Nat) (n : Int),
    (Cs.nchks K Gl loops l).2 = 0 → (Cs.rchks RB ar l).2 = 0 → VarS K V → 0 ≤ n → 0 ≤ wd → wd + 1024 * (Cs.totals l : Int) ≤ 4611686018427387904 → RegA R (Cs.gns F l V wd p n).1.code →
      OutS A R K V wd p [] (Cs.totals l) (Cs.gns F l V wd p n).1 ∧ BrkJ p ((Cs.gns F l V wd p n).1.code.map Ins.op) (Cs.gns F l V wd p n).2
  | [], K, loops, RB, V, wd, p, n, hn, hr, hV, h0, hw0, hw1, hreg => by
    simp only [Cs.gns, Cs.totals]
    exact ⟨⟨fun _ _ => .nil, BrkJ.nil _ _, hV.reg, fun _ _ _ => rfl, by show wd ≤ wd; omega, by show wd ≤ wd + _; omega⟩, BrkJ.nil _ _⟩
  | .mk num body :: l, K, loops, RB, V, wd, p, n, hn, hr, hV, h0, hw0, hw1, hreg => by
    simp only [Cs.nchks, Cs.nchk] at hn
    simp only [Cs.rchks, Cs.rchk] at hr
    obtain ⟨hn1, hn2⟩ := after_two hn
    obtain ⟨hr1, hr2⟩ := after_two hr
    simp only [Cs.totals, Cs.total] at hw1 ⊢
    simp only [Cs.gns, Cs.gn] at hreg ⊢
    have i1 := St.gns_ok hF body K loops RB V wd (p + 3) n [] hn1 hr1 hV h0 hw0 (by omega) hreg.left.left.right
    obtain ⟨o, ho⟩ : ∃ o, o = St.gns F body V wd (p + 3) n [] := ⟨_, rfl⟩
    rw [← ho] at i1
    simp only [← ho] at hreg ⊢
    have j1 := i1.w0
    have j2 := i1.w1
    obtain ⟨i2, i3⟩ := Cs.gns_ok hF l K loops RB o.V o.words (p + 3 + o.code.length + 1) n hn2 hr2 (hV.out i1) h0 (by omega) (by omega) hreg.right
    obtain ⟨o2, ho2⟩ : ∃ o2, o2 = Cs.gns F l o.V o.words (p + 3 + o.code.length + 1) n := ⟨_, rfl⟩
    rw [← ho2] at i2 i3
    simp only [← ho2] at hreg ⊢
    refine ⟨⟨fun lim hl => ?_, ?_, i2.reg, fun y hy hy2 => (i2.same y hy hy2).trans (i1.same y hy hy2), by have := i2.w0; show wd ≤ o2.1.words; omega, by have := i2.w1; show o2.1.words ≤ _; omega⟩, fun j hj => ?_⟩
    · simp only [List.length_append, List.length_cons, List.length_nil] at hl
      exact (((CodeS.cons (is_set (by omega)) (.cons (is_three (by decide) (by omega) h0 (by omega)) (.one (is_unless (by omega) ⟨by omega, by omega⟩)))).app (i1.code lim (by omega))).app (.one (is_jump ⟨by omega, by omega⟩))).app (i2.code lim (by omega))
    · simp only [List.map_append]
      refine BrkJ.app (BrkJ.left (BrkJ.left (BrkJ.right i1.brk (by simp)))) (BrkJ.right i2.brk ?_)
      simp; omega
    · rcases List.mem_cons.1 hj with hj | hj
      · subst hj
        refine ⟨by omega, ?_⟩
        simp only [List.map_append]
        rw [List.getElem?_append_left (by simp; omega), List.getElem?_append_right (by simp; omega)]
        simp only [List.length_append, List.length_map, List.length_cons, List.length_nil]
        rw [show p + 3 + o.code.length - p - (0 + 1 + 1 + 1 + o.code.length) = 0 by omega]
        rfl
      · refine (BrkJ.right (q := p + 3 + o.code.length + 1) (a := ([⟨1, n + 1, 0, 0, num⟩, ⟨9, n + 1, n, n + 1, 0⟩, ⟨16, n + 1, 0, 0, ((p + 3 + o.code.length + 1 : Nat) : Int)⟩] ++ o.code ++ [⟨14, 0, 0, 0, 0⟩] : List Ins).map Ins.op) i3 (by simp; omega) j hj) |> fun h => by simpa [Cs.n] using h
end
end Go.Proofs.YtgobcldecokppaaDoor

namespace Go.Proofs.YtgobcldecokppaaDoor
open Go.RowKit Go.Maps

theorem gnAll_fine : ∀ (l : List Fn) (i : Nat) (F : ByteArray → Int), (gnAll l i F).2.1 = 0 → (gnAll l i F).2 = (0, 0, 0) ∧ (gnAll l i F).1.length = l.length
  | [], _, _, _ => ⟨rfl, rfl⟩
  | f :: l, i, F, h => by
    simp only [gnAll] at h ⊢
    by_cases hb : (gnFun F f).bad = 0
    · rw [if_neg (by rw [hb]; decide)] at h ⊢
      have h1 := gnAll_fine l (i + 1) _ h
      exact ⟨h1.1, by simp [h1.2]⟩
    · rw [if_pos hb] at h; exact absurd h hb
theorem useR_le : ∀ (l : List Int) (r : Int), r ≤ useR r l
  | [], r => Int.le_refl r
  | x :: l, r => by
    have h := useR_le l (if x + 1 > r then x + 1 else r)
    show r ≤ useR (if x + 1 > r then x + 1 else r) l
    split at h <;> rename_i e
    · rw [if_pos e]; omega
    · rw [if_neg e]; exact h
theorem useR_mem : ∀ (l : List Int) (r : Int), ∀ x ∈ l, x + 1 ≤ useR r l
  | [], _, x, hx => by cases hx
  | y :: l, r, x, hx => by
    show x + 1 ≤ useR (if y + 1 > r then y + 1 else r) l
    rcases List.mem_cons.1 hx with hx | hx
    · subst hx
      have h := useR_le l (if x + 1 > r then x + 1 else r)
      split at h <;> rename_i e
      · rw [if_pos e]; omega
      · rw [if_neg e]; omega
    · exact useR_mem l _ x hx
theorem regsOf_le : ∀ (c : List Ins) (r : Int), r ≤ regsOf r c
  | [], r => Int.le_refl r
  | x :: c, r => Int.le_trans (useR_le [x.a, x.b, x.c] r) (regsOf_le c (useR r [x.a, x.b, x.c]))
theorem regsOf_mem : ∀ (c : List Ins) (r : Int), ∀ x ∈ c, x.a + 1 ≤ regsOf r c ∧ x.b + 1 ≤ regsOf r c ∧ x.c + 1 ≤ regsOf r c
  | [], _, x, hx => by cases hx
  | y :: c, r, x, hx => by
    show x.a + 1 ≤ regsOf (useR r [y.a, y.b, y.c]) c ∧ _
    rcases List.mem_cons.1 hx with hx | hx
    · subst hx
      have h := regsOf_le c (useR r [x.a, x.b, x.c])
      have h1 := useR_mem [x.a, x.b, x.c] r x.a (by simp)
      have h2 := useR_mem [x.a, x.b, x.c] r x.b (by simp)
      have h3 := useR_mem [x.a, x.b, x.c] r x.c (by simp)
      exact ⟨by omega, by show x.b + 1 ≤ regsOf (useR r [x.a, x.b, x.c]) c; omega, by show x.c + 1 ≤ regsOf (useR r [x.a, x.b, x.c]) c; omega⟩
    · exact regsOf_mem c _ x hx
/-- An instruction that may be, in a function of a module. -/
structure InsM (ms : List GFun) (g : GFun) (x : Ins) : Prop where
  op : 0 ≤ x.op ∧ x.op < 20
  a : (hasA x.op = true → 0 ≤ x.a ∧ x.a < g.regs) ∧ (hasA x.op = false → x.a = 0)
  b : (hasB x.op = true → 0 ≤ x.b ∧ x.b < g.regs) ∧ (hasB x.op = false → x.b = 0)
  c : (hasC x.op = true → 0 ≤ x.c ∧ x.c < g.regs) ∧ (hasC x.op = false → x.c = 0)
  n0 : kindN x.op = 0 → x.n = 0
  n2 : kindN x.op = 2 → 0 ≤ x.n ∧ x.n < (g.code.length : Int)
  n3 : kindN x.op = 3 → 1 ≤ x.n ∧ x.n ≤ 4096
  n4 : kindN x.op = 4 → ∃ (j : Nat) (h : GFun), x.n = (j : Int) ∧ ms[j]? = some h ∧ x.b + (h.params.length : Int) ≤ g.regs
structure GFOk (ms : List GFun) (g : GFun) : Prop where
  name : nameB g.name = true
  few : g.params.length ≤ 8
  par : ∀ q ∈ g.params, q.1 ≤ q.2
  regs : 1 ≤ g.regs ∧ g.regs ≤ 64 ∧ (g.params.length : Int) ≤ g.regs
  words : 0 ≤ g.words ∧ g.words ≤ 4096
  code : 1 ≤ g.code.length ∧ g.code.length ≤ 1024
  ins : ∀ x ∈ g.code, InsM ms g x
  last : ∃ x, g.code[g.code.length - 1]? = some x ∧ x.op = 0
structure MayM (ts : List Int) (ms : List GFun) : Prop where
  few : ts.length ≤ 16
  rise : ∀ (i : Nat) a b, ts[i]? = some a → ts[i + 1]? = some b → a < b
  funcs : ms.length ≤ 32
  each : ∀ g ∈ ms, GFOk ms g
  names : ∀ (i j : Nat) (g h : GFun), i < j → ms[i]? = some g → ms[j]? = some h → g.name ≠ h.name
theorem GFun.bad_zero {g : GFun} (h : g.bad = 0) : g.words ≤ 4096 ∧ g.regs ≤ 64 ∧ g.code.length ≤ 1024 := by
  unfold GFun.bad at h
  split at h
  · omega
  split at h
  · omega
  split at h
  · omega
  omega
theorem parK_three (l : List Pm) (s : ByteArray) : kindOf (parK l) s ≠ 3 := by
  induction l with
  | nil => show (0 : Int) ≠ 3; decide
  | cons x l ih =>
    show (if x.name = s then (1 : Int) else kindOf (parK l) s) ≠ 3
    split
    · decide
    · exact ih
/-- The functions' numbers, up to function i. -/
def NumF (fs : List Fn) (i : Nat) (F : ByteArray → Int) : Prop := ∀ s ∈ gAt fs i, ∃ (j : Nat) (f : Fn), F s = (j : Int) ∧ fs[j]? = some f ∧ arOf (fs.take i) s = (f.params.length : Int)
/-- Function n has k parameters. -/
def HasP (fs : List Fn) (n k : Int) : Prop := ∃ (j : Nat) (f : Fn), n = (j : Int) ∧ fs[j]? = some f ∧ (f.params.length : Int) = k
theorem gnFun_ok {fs : List Fn} {ms : List GFun} (hms : ∀ (j : Nat) f, fs[j]? = some f → ∃ h : GFun, ms[j]? = some h ∧ h.params.length = f.params.length) {i : Nat} {f : Fn} {F : ByteArray → Int} (hF : NumF fs i F) (hg : f.Good) (hnm : nameB f.name = true)
    (hn : (St.nchks (parK f.params) (gAt fs i) 0 f.body).2 = 0) {RB : List ByteArray} (hr : (St.rchks RB (arOf (fs.take i)) f.body).2 = 0) (he : emptyB f.params = false) (hb : (gnFun F f).bad = 0) : GFOk ms (gnFun F f) := by
  have hbz := GFun.bad_zero hb
  have hA : ∀ s ∈ gAt fs i, HasP fs (F s) (arOf (fs.take i) s) := fun s hs => by
    obtain ⟨j, f', h1, h2, h3⟩ := hF s hs
    exact ⟨j, f', h1, h2, h3.symm⟩
  have hV : VarS (parK f.params) (gnV0 f.params 0 (fun _ => noPlc)) := by
    refine ⟨fun q hq => ?_, fun s => (gnV0_reg f.params 0 _ (by have := hg.few; omega) (fun y => by show 0 ≤ (0 : Int) ∧ (0 : Int) ≤ 1000000000000; decide) s).1, fun s hs => absurd hs (parK_three _ _)⟩
    obtain ⟨x, _, rfl⟩ := List.mem_map.1 hq
    show (1 : Int) ≠ 0
    decide
  obtain ⟨n, hnn⟩ : ∃ n : Int, n = f.params.length := ⟨_, rfl⟩
  obtain ⟨o, ho⟩ : ∃ o, o = St.gns F f.body (gnV0 f.params 0 (fun _ => noPlc)) 0 0 n [] := ⟨_, rfl⟩
  have hcode : (gnFun F f).code = o.code ++ [⟨1, n, 0, 0, 0⟩] ++ [⟨0, n, 0, 0, 0⟩] := by rw [ho, hnn]; rfl
  have hregs : (gnFun F f).regs = regsOf n (gnFun F f).code := by rw [hcode, ho, hnn]; rfl
  have hwords : (gnFun F f).words = o.words := by rw [ho, hnn]; rfl
  have hpar : (gnFun F f).params = f.params.map fun x => (x.lo, x.hi) := rfl
  have hname : (gnFun F f).name = f.name := rfl
  have hmem := regsOf_mem (gnFun F f).code n
  have hle := regsOf_le (gnFun F f).code n
  rw [← hregs] at hmem hle
  have hra : RegA (gnFun F f).regs o.code := fun z hz => by
    obtain ⟨x, hx, rfl⟩ := List.mem_map.1 hz
    exact (hmem x (by rw [hcode]; simp [hx])).1
  have hout := St.gns_ok (A := HasP fs) (R := (gnFun F f).regs) hA f.body (parK f.params) 0 RB (gnV0 f.params 0 (fun _ => noPlc)) 0 0 n [] hn hr hV (by omega) (by decide) (by have := hg.total; omega) (by rw [← ho]; exact hra)
  rw [← ho] at hout
  obtain ⟨g, hgg⟩ : ∃ g, g = gnFun F f := ⟨_, rfl⟩
  rw [← hgg] at hbz hcode hwords hpar hname hmem hle hout ⊢
  have hlen : g.code.length = o.code.length + 2 := by rw [hcode]; simp
  have hplen : (g.params.length : Int) = n := by rw [hpar, hnn]; simp
  have hall : CodeS (o.code.length : Int) (CallS (HasP fs) g.regs) g.code := by
    rw [hcode]
    exact ((hout.code _ (by simp)).app (.one (is_set (by omega)))).app (.one (is_ret (by omega)))
  have h1 : 1 ≤ g.regs := by
    have := (hmem ⟨0, n, 0, 0, 0⟩ (by rw [hcode]; simp)).1
    have h2 : n + 1 ≤ g.regs := this
    omega
  refine ⟨by rw [hname]; exact hnm, by rw [hpar, List.length_map]; exact hg.few, fun q hq => ?_, ⟨h1, hbz.2.1, by rw [hplen]; exact hle⟩, ⟨by rw [hwords]; exact hout.w0, hbz.1⟩, ⟨by omega, hbz.2.2⟩, fun x hx => ?_, ⟨⟨0, n, 0, 0, 0⟩, ?_, rfl⟩⟩
  · rw [hpar] at hq
    obtain ⟨x, hx, rfl⟩ := List.mem_map.1 hq
    unfold emptyB at he
    rw [List.any_eq_false] at he
    have := he x hx
    simp at this
    exact this
  · have h := hall x hx
    have hm := hmem x hx
    refine ⟨h.op, ⟨fun e => ⟨h.a.1 e, by omega⟩, h.a.2⟩, ⟨fun e => ⟨h.b.1 e, by omega⟩, h.b.2⟩, ⟨fun e => ⟨h.c.1 e, by omega⟩, h.c.2⟩, h.n0, fun e => ?_, h.n3, fun e => ?_⟩
    · have := h.n2 e; omega
    · obtain ⟨k, ⟨j, f', e1, e2, e3⟩, e4⟩ := h.n4 e
      obtain ⟨h', e5, e6⟩ := hms j f' e2
      exact ⟨j, h', e1, e5, by omega⟩
  · rw [hcode, List.getElem?_append_right (by simp)]
    simp
theorem NumF.next {fs : List Fn} {i : Nat} {F : ByteArray → Int} (h : NumF fs i F) {f : Fn} (hf : fs[i]? = some f) (hn : f.name ∉ gAt fs i) : NumF fs (i + 1) (putF F f.name (i : Int)) := by
  intro s hs
  rw [arOf_next hf hn]
  unfold putF
  by_cases e : s = f.name
  · subst e
    exact ⟨i, f, by simp, hf, by simp⟩
  · have hs2 : s ∈ gAt fs i := by
      unfold gAt at hs ⊢
      rw [take_next hf, List.map_append, List.mem_append] at hs
      rcases hs with hs | hs
      · exact hs
      · simp at hs; exact absurd hs e
    obtain ⟨j, f', h1, h2, h3⟩ := h s hs2
    exact ⟨j, f', by simp only [if_neg e]; exact h1, h2, by simp only [if_neg e]; exact h3⟩
theorem gnAll_every {fs : List Fn} (hd : ∀ (i : Nat) f, fs[i]? = some f → f.name ∉ gAt fs i) : ∀ (l : List Fn) (i : Nat) (F : ByteArray → Int), l = fs.drop i → NumF fs i F → (gnAll l i F).2.1 = 0 →
    ∀ g ∈ (gnAll l i F).1, ∃ (j : Nat) (f : Fn) (F' : ByteArray → Int), fs[j]? = some f ∧ NumF fs j F' ∧ g = gnFun F' f ∧ g.bad = 0
  | [], _, _, _, _, _, g, hg => by simp [gnAll] at hg
  | f :: l, i, F, hl, hF, h, g, hg => by
    have hlt : i < fs.length := by
      by_cases e : i < fs.length
      · exact e
      · rw [List.drop_eq_nil_of_le (by omega)] at hl; cases hl
    rw [List.drop_eq_getElem_cons hlt] at hl
    injection hl with h1 h2
    have hf : fs[i]? = some f := by rw [List.getElem?_eq_getElem hlt, h1]
    simp only [gnAll] at h hg
    by_cases hb : (gnFun F f).bad = 0
    · rw [if_neg (by rw [hb]; decide)] at h hg
      rcases List.mem_cons.1 hg with hg | hg
      · exact ⟨i, f, F, hf, hF, hg, by rw [hg]; exact hb⟩
      · exact gnAll_every hd l (i + 1) _ h2 (hF.next hf (hd i f hf)) h g hg
    · rw [if_pos hb] at h; exact absurd h hb
theorem gnAll_nth : ∀ (l : List Fn) (i : Nat) (F : ByteArray → Int), (gnAll l i F).2.1 = 0 → ∀ (j : Nat) (f : Fn), l[j]? = some f → ∃ h : GFun, (gnAll l i F).1[j]? = some h ∧ h.params = (f.params.map fun x => (x.lo, x.hi)) ∧ h.name = f.name
  | [], _, _, _, j, f, hf => by simp at hf
  | y :: l, i, F, h, j, f, hf => by
    simp only [gnAll] at h ⊢
    by_cases hb : (gnFun F y).bad = 0
    · rw [if_neg (by rw [hb]; decide)] at h ⊢
      cases j with
      | zero => simp at hf; subst hf; exact ⟨_, rfl, rfl, rfl⟩
      | succ j => obtain ⟨g, h2⟩ := gnAll_nth l (i + 1) _ h j f (by simpa using hf); exact ⟨g, by simpa using h2⟩
    · rw [if_pos hb] at h; exact absurd h hb
theorem riseB_at : ∀ (l : List Int), riseB l = true → ∀ (i : Nat) a b, l[i]? = some a → l[i + 1]? = some b → a < b
  | [], _, i, a, b, h, _ => by simp at h
  | [x], _, i, a, b, _, h => by simp at h
  | x :: y :: l, hr, i, a, b, h1, h2 => by
    simp only [riseB, Bool.and_eq_true, decide_eq_true_eq] at hr
    cases i with
    | zero => simp at h1 h2; omega
    | succ i => exact riseB_at (y :: l) hr.2 i a b (by simpa using h1) (by simpa using h2)
theorem Pg.head_wid {p : Pg} (h : p.headErr = 0) : p.widen.length ≤ 16 ∧ riseB p.widen = true := by
  unfold Pg.headErr at h
  split at h
  · omega
  split at h
  · omega
  split at h
  · omega
  rename_i h1 _ h2
  exact ⟨by omega, by simpa using h2⟩
/-- What a right program's module is like. -/
theorem gmod_may {p : Pg} (hf : p.gmod.2.2.1 = 0) : MayM p.gmod.1 p.gmod.2.1 ∧ p.gmod.1 = p.widen ∧ p.gmod.2.1.length = p.funcs.length ∧ ∀ (j : Nat) f, p.funcs[j]? = some f → ∃ h : GFun, p.gmod.2.1[j]? = some h ∧ h.params = (f.params.map fun x => (x.lo, x.hi)) ∧ h.name = f.name := by
  unfold Pg.gmod at hf ⊢
  by_cases h0 : p.rfault.1 = 0
  · rw [if_neg (by rw [h0]; decide)] at hf ⊢
    by_cases h5 : (gnAll p.funcs 0 (fun _ => 0)).2.1 = 0
    · rw [if_neg (by rw [h5]; decide)]
      obtain ⟨h1, h2⟩ := Pg.fault_of_rfault h0
      have hgood := Pg.good h1
      have hnth := gnAll_nth p.funcs 0 _ h5
      have hall := Pg.nfault_all h1 h2
      have hd : ∀ (i : Nat) f, p.funcs[i]? = some f → f.name ∉ gAt p.funcs i := fun i f hi => (Fn.right (hall i f hi)).1
      have hr : ∀ (j : Nat) y, p.funcs[j]? = some y → (y.rfault (p.funcs.take j) j).1 = 0 := by
        have h6 : p.rfault = Fn.rfaults [] p.funcs 0 := by unfold Pg.rfault; rw [if_neg (by rw [h2]; decide)]
        rw [h6] at h0
        rcases Fn.rfaults_cases [] p.funcs 0 with hn | ⟨i, x, hx, hb, hz⟩
        · intro j y hy
          have := hn j y hy
          simpa using this
        · rw [Fn.rfaults_hit hx hb hz] at h0; exact absurd h0 hz
      have hhead : p.headErr = 0 := by
        by_cases e : p.headErr = 0
        · exact e
        · unfold Pg.fault at h1; rw [if_pos e] at h1; exact absurd h1 e
      have hface : ∀ (i : Nat) f, p.funcs[i]? = some f → nameB f.name = true := fun i f hi => by
        have h3 : (Fn.faults p.funcs 0).1 = 0 := by unfold Pg.fault at h1; rw [if_neg (by rw [hhead]; decide)] at h1; exact h1
        have h4 := Fn.faults_all h3 i f hi
        unfold Fn.fault at h4
        by_cases hf0 : f.face = 0
        · unfold Fn.face at hf0
          split at hf0
          · omega
          · rename_i hn; simpa using hn
        · rw [if_pos hf0] at h4; exact absurd h4 hf0
      have hms : ∀ (j : Nat) f, p.funcs[j]? = some f → ∃ h : GFun, (gnAll p.funcs 0 (fun _ => 0)).1[j]? = some h ∧ h.params.length = f.params.length := fun j f hj => by
        obtain ⟨h, e1, e2, _⟩ := hnth j f hj
        exact ⟨h, e1, by rw [e2, List.length_map]⟩
      have hlen := (gnAll_fine _ _ _ h5).2
      refine ⟨⟨(Pg.head_wid hhead).1, riseB_at _ (Pg.head_wid hhead).2, by show (gnAll p.funcs 0 (fun _ => 0)).1.length ≤ 32; rw [hlen]; exact hgood.1, fun g hg => ?_, fun i j g h hij hgi hhj => ?_⟩, rfl, hlen, hnth⟩
      · obtain ⟨j, f, F', e1, e2, e3, e4⟩ := gnAll_every hd p.funcs 0 (fun _ => 0) (by simp) (fun s hs => by simp [gAt] at hs) h5 g hg
        have e5 := Fn.right (hall j f e1)
        have e6 := hr j f e1
        unfold Fn.rfault at e6
        split at e6
        · exact absurd e6 (by simp)
        rename_i e7
        split at e6
        · rename_i e8; exact absurd e6 e8
        rename_i e8
        rw [e3]
        exact gnFun_ok hms e2 (hgood.2 j f e1) (hface j f e1) e5.2.2 (by simpa using e8) (by simpa using e7) (by rw [← e3]; exact e4)
      · have hi : i < p.funcs.length := by have h1 : i < (gnAll p.funcs 0 (fun _ => 0)).1.length := (List.getElem?_eq_some_iff.1 hgi).1; omega
        have hj : j < p.funcs.length := by have h1 : j < (gnAll p.funcs 0 (fun _ => 0)).1.length := (List.getElem?_eq_some_iff.1 hhj).1; omega
        obtain ⟨g', a1, _, a3⟩ := hnth i _ (List.getElem?_eq_getElem hi)
        obtain ⟨h', b1, _, b3⟩ := hnth j _ (List.getElem?_eq_getElem hj)
        have hgi : (gnAll p.funcs 0 (fun _ => 0)).1[i]? = some g := hgi
        have hhj : (gnAll p.funcs 0 (fun _ => 0)).1[j]? = some h := hhj
        rw [hgi] at a1
        rw [hhj] at b1
        cases a1
        cases b1
        rw [a3, b3]
        intro e
        refine hd j _ (List.getElem?_eq_getElem hj) ?_
        rw [← e]
        unfold gAt
        refine List.mem_map.2 ⟨p.funcs[i], ?_, rfl⟩
        rw [List.mem_take_iff_getElem]
        exact ⟨i, by omega, rfl⟩
    · rw [if_pos h5] at hf; exact absurd hf h5
  · rw [if_pos h0] at hf; exact absurd hf h0
end Go.Proofs.YtgobcldecokppaaDoor
