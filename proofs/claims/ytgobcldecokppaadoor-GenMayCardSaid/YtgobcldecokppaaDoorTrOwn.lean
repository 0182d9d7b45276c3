/- What is wrong with a statement itself. -/
import Derived.Test.YtgobcldecokppaaDoorTrFace
namespace Go.Proofs.YtgobcldecokppaaDoor
open Go.RowKit

def stVal (x : St) (va vb vd ve vc : Value) : Value := .agg #[.int .i64 x.kind, .string x.name, .int .i64 x.n, .int .i64 x.a.kind, .int .i64 x.a.n, .string x.a.name, va, .int .i64 x.b.kind, .int .i64 x.b.n, .string x.b.name, vb, vd, ve, vc]
/-- By the flags: what is wrong with a statement itself. -/
def St.ownF (x : St) (kn f0 f1 f2 f3 f4 f5 f6 : Bool) : Int :=
  if (!kn || (!f0 && decide (x.name.toList ≠ [])) || (!f1 && decide (x.n ≠ 0)) || (!f2 && !x.a.zero) || (!f3 && !x.b.zero) || (!f4 && decide (0 < x.body.length)) || (!f5 && decide (0 < x.els.length)) || (!f6 && decide (0 < x.cases.length))) = true then 5
  else if (f0 && !nameB x.name) = true then 8 else if (decide (x.n < 0) || lowestB x.cases) = true then 1 else if x.kind = 10 ∧ x.a.kind ≠ 4 then 5 else 0
structure FlAt (w : World) (b : Nat) (f0 f1 f2 f3 f4 f5 f6 : Bool) : Prop where
  c0 : w.cell? ⟨b, 0, none⟩ = some (.bool f0)
  c1 : w.cell? ⟨b, 1, none⟩ = some (.bool f1)
  c2 : w.cell? ⟨b, 2, none⟩ = some (.bool f2)
  c3 : w.cell? ⟨b, 3, none⟩ = some (.bool f3)
  c4 : w.cell? ⟨b, 4, none⟩ = some (.bool f4)
  c5 : w.cell? ⟨b, 5, none⟩ = some (.bool f5)
  c6 : w.cell? ⟨b, 6, none⟩ = some (.bool f6)
theorem FlAt.later {w w' : World} {b : Nat} {f0 f1 f2 f3 f4 f5 f6 : Bool} (h : FlAt w b f0 f1 f2 f3 f4 f5 f6) {B : Nat} (hb : Below B w w') (hB : b < B) : FlAt w' b f0 f1 f2 f3 f4 f5 f6 :=
  have k := fun j => hb.cell (p := ⟨b, j, none⟩) hB
  ⟨(k _).trans h.c0, (k _).trans h.c1, (k _).trans h.c2, (k _).trans h.c3, (k _).trans h.c4, (k _).trans h.c5, (k _).trans h.c6⟩
/-- What holds at each place of the walk. -/
def OwnAt (W : World) (b : Nat) (x : St) (va vb vd ve vc : Value) (f0 f1 f2 f3 f4 f5 f6 : Bool) (w : World) : Prop :=
  Below W.heap.size W w ∧ (W.heap.size = b ∧ b + 1 < w.heap.size) ∧ StAt w b 0 x va vb vd ve vc ∧ FlAt w (b + 1) f0 f1 f2 f3 f4 f5 f6
theorem ownStep {W : World} {b : Nat} {x : St} {va vb vd ve vc : Value} {f0 f1 f2 f3 f4 f5 f6 : Bool} {w w' : World} (h : Hid (OwnAt W b x va vb vd ve vc f0 f1 f2 f3 f4 f5 f6 w)) (hb : Below w.heap.size w w') : Hid (OwnAt W b x va vb vd ve vc f0 f1 f2 f3 f4 f5 f6 w') := by
  obtain ⟨h1, h2, h3, h4⟩ := h.out
  have q := hb.size
  exact Lib.hid ⟨h1.trans (hb.mono h1.size), ⟨h2.1, by omega⟩, h3.later hb (by omega), h4.later hb (by omega)⟩
def asB : Value → Option Bool
  | .bool b => some b
  | _ => none
theorem Act.put_undef {ts : List Value} {df : List Deferred} {d : Nat} (h : ts[d]? = some undef) : Act.put ⟨ts.toArray, df⟩ (some d) undef = ⟨ts.toArray, df⟩ := by
  simp only [Act.put, List.setIfInBounds_toArray]
  congr 2
  apply List.ext_getElem?
  intro i
  rw [List.getElem?_set]
  split
  · rename_i e; subst e; split <;> simp_all
  · rfl
/-- An operation that its guard leaves out, where its slot is still empty. -/
theorem wpList_skipL {P : Program} {l : List Oper} {Q : Exit → Act → World → Prop} {rest : List Oper} {o : Oper} {ts : List Value} {df : List Deferred} {w : World} {j dj d : Nat} {want : Bool} {v : Value}
    (hg : o.guard = some (j, want)) (hl : l[j]?.bind Oper.dst = some dj) (ht : ts[dj]? = some v) (hv : (asB v == some want) = false) (hd : o.dst = some d) (hu : ts[d]? = some undef)
    (h : wpList P l.toArray Q rest ⟨ts.toArray, df⟩ w) : wpList P l.toArray Q (o :: rest) ⟨ts.toArray, df⟩ w := by
  have hw : Region.wanted o (yielded l.toArray ts.toArray) = false := by
    unfold Region.wanted
    rw [hg]
    show (yielded l.toArray ts.toArray j == some want) = false
    have : yielded l.toArray ts.toArray j = asB v := by
      unfold yielded
      rw [show (l.toArray[j]?.bind fun x => Oper.dst x) = some dj by simpa using hl]
      simp only [Option.bind_some, List.getElem?_toArray, ht]
      cases v <;> rfl
    rw [this, hv]
  show (if Region.wanted o (yielded l.toArray ts.toArray) = true then _ else wpList P l.toArray Q rest (Act.put ⟨ts.toArray, df⟩ o.dst undef) w)
  rw [if_neg (by rw [hw]; decide), hd, Act.put_undef hu]
  exact h
/-- The same, in a coat: no tactic looks into it. -/
structure WP (P : Program) (l : List Oper) (Q : Exit → Act → World → Prop) (rest : List Oper) (ts : List Value) (df : List Deferred) (w : World) : Prop where
  out : wpList P l.toArray Q rest ⟨ts.toArray, df⟩ w
theorem WP.skip {P : Program} {l : List Oper} {Q : Exit → Act → World → Prop} {rest : List Oper} {o : Oper} {ts : List Value} {df : List Deferred} {w : World} (j dj : Nat) (want : Bool) {d : Nat} {v : Value}
    (hg : o.guard = some (j, want)) (hl : l[j]?.bind Oper.dst = some dj) (ht : ts[dj]? = some v) (hv : (asB v == some want) = false) (hd : o.dst = some d) (hu : ts[d]? = some undef)
    (h : WP P l Q rest ts df w) : WP P l Q (o :: rest) ts df w := ⟨wpList_skipL hg hl ht hv hd hu h.out⟩
theorem WP.cut {P : Program} {l : List Oper} {Q : Exit → Act → World → Prop} {rest : List Oper} {ts : List Value} {df : List Deferred} {w : World} (n : Nat) (R : List Value → World → Prop)
    (h : ∀ l2, (∀ ts w, R ts w → wpList P l.toArray Q l2 ⟨ts.toArray, df⟩ w) → WP P l Q (rest.take n ++ l2) ts df w) (h2 : ∀ ts w, R ts w → WP P l Q (rest.drop n) ts df w) : WP P l Q rest ts df w := by
  have := h (rest.drop n) fun ts w r => (h2 ts w r).out
  rwa [List.take_append_drop] at this
theorem wpList_of {P : Program} {l : List Oper} {Q : Exit → Act → World → Prop} {rest : List Oper} {ts : List Value} {df : List Deferred} {w : World} (h : WP P l Q rest ts df w) : wpList P l.toArray Q rest ⟨ts.toArray, df⟩ w := h.out
theorem ne_dec (n m : Int) : (n != m) = !decide (n = m) := rfl
theorem isEmpty_dec {α : Type} [DecidableEq α] (l : List α) : l.isEmpty = decide (l = []) := by cases l <;> simp
set_option maxRecDepth 100000 in
set_option maxHeartbeats 8000000 in
theorem own_flags (x : St) (aa ab ad ae ac : Option Addr) (na nb nd ne nc ca cb cd ce cc : Nat) (hna : na = x.a.args.length) (hnb : nb = x.b.args.length) (hnd : nd = x.body.length) (hne : ne = x.els.length) (hnc : nc = x.cases.length)
    (kn f0 f1 f2 f3 f4 f5 f6 : Bool) (vk : Nat → Value) (W : World)
    (hcs : RowOf W (.slice ac nc cc) x.cases.length 2 (fun b o k => ∀ y, x.cases[k]? = some y → CsAt W b o y (vk k))) (hvk : ∀ (i : Nat) y, x.cases[i]? = some y → ∃ a m cap, vk i = .slice a m cap) :
    Calls Tryd.prog 55 #[stVal x (.slice aa na ca) (.slice ab nb cb) (.slice ad nd cd) (.slice ae ne ce) (.slice ac nc cc), .agg #[.bool f0, .bool f1, .bool f2, .bool f3, .bool f4, .bool f5, .bool f6], .bool kn] W (Gives (.int .i64 (x.ownF kn f0 f1 f2 f3 f4 f5 f6)) W) := by
  obtain ⟨W1, hW1⟩ : ∃ W1, W1 = W.alloc (.cells #[.int .i64 x.kind, .string x.name, .int .i64 x.n, .int .i64 x.a.kind, .int .i64 x.a.n, .string x.a.name, .slice aa na ca, .int .i64 x.b.kind, .int .i64 x.b.n, .string x.b.name, .slice ab nb cb, .slice ad nd cd, .slice ae ne ce, .slice ac nc cc] 56) := ⟨_, rfl⟩
  obtain ⟨W2, hW2⟩ : ∃ W2, W2 = W1.alloc (.cells #[.bool f0, .bool f1, .bool f2, .bool f3, .bool f4, .bool f5, .bool f6] 128) := ⟨_, rfl⟩
  have hs1 : W1.heap.size = W.heap.size + 1 := by rw [hW1]; simp
  have hs2 : W2.heap.size = W1.heap.size + 1 := by rw [hW2]; simp
  have hb1 : Below W.heap.size W W1 := by rw [hW1]; exact (Below.refl _ _).alloc (Nat.le_refl _) _
  have hb2 : Below W1.heap.size W1 W2 := by rw [hW2]; exact (Below.refl _ _).alloc (Nat.le_refl _) _
  have hst : StAt W1 W.heap.size 0 x (.slice aa na ca) (.slice ab nb cb) (.slice ad nd cd) (.slice ae ne ce) (.slice ac nc cc) := by rw [hW1]; exact StAt.box _ _ _ _ _ _ _ _
  have hfl : FlAt W2 W1.heap.size f0 f1 f2 f3 f4 f5 f6 := by rw [hW2]; constructor <;> exact World.cell?_alloc_at _ _ _ _ rfl
  obtain ⟨B, hB⟩ : ∃ B, B = W.heap.size := ⟨_, rfl⟩
  have H0 : Hid (OwnAt W B x (.slice aa na ca) (.slice ab nb cb) (.slice ad nd cd) (.slice ae ne ce) (.slice ac nc cc) f0 f1 f2 f3 f4 f5 f6 W2) :=
    Lib.hid ⟨hb1.trans (hb2.mono (by omega)), ⟨by omega, by omega⟩, by rw [hB]; exact hst.later hb2 (by omega), by rw [hB, ← hs1]; exact hfl⟩
  have Hl := Lib.hid (And.intro hna (And.intro hnb (And.intro hnd (And.intro hne hnc))))
  have Hcs := Lib.hid (And.intro hcs hvk)
  have HW1 := Lib.hid hW1
  have HW2 := Lib.hid hW2
  have HB := Lib.hid hB
  unfold stVal
  clear hna hnb hnc hnd hne hcs hvk hW1 hW2 hs1 hs2 hb1 hb2 hst hfl hB
  go_enter Tryd.func55, Tryd.ntmps55
  go_upto_region 1 with (fail)
  rw [← HW1.out, ← HW2.out, ← HB.out]
  refine wp_region_lit ?_
  simp only [List.append_eq, List.cons_append, List.nil_append]
  refine wpList_of ?_
  refine WP.cut 13 (fun ts w => ∀ C : List Value → World → Prop, (∀ (u8 u9 u10 u11 u12 u13 u14 u15 u16 u17 u18 u19 : Value) (q : Bool) (w : World), q = (!kn || !f0 && decide (x.name.toList ≠ [])) → OwnAt W B x (.slice aa na ca) (.slice ab nb cb) (.slice ad nd cd) (.slice ae ne ce) (.slice ac nc cc) f0 f1 f2 f3 f4 f5 f6 w → C (.agg #[.int .i64 x.kind, .string x.name, .int .i64 x.n, .int .i64 x.a.kind, .int .i64 x.a.n, .string x.a.name, .slice aa na ca, .int .i64 x.b.kind, .int .i64 x.b.n, .string x.b.name, .slice ab nb cb, .slice ad nd cd, .slice ae ne ce, .slice ac nc cc] :: .agg #[.bool f0, .bool f1, .bool f2, .bool f3, .bool f4, .bool f5, .bool f6] :: .bool kn :: .pointer (some ⟨B, 0, none⟩) :: .pointer (some ⟨B + 1, 0, none⟩) :: undef :: .int .i64 0 :: undef :: u8 :: u9 :: u10 :: u11 :: u12 :: u13 :: u14 :: u15 :: u16 :: u17 :: u18 :: u19 :: .bool q :: undef :: undef :: undef :: undef :: undef :: undef :: undef :: undef :: undef :: undef :: undef :: undef :: undef :: undef :: undef :: undef :: undef :: undef :: undef :: undef :: undef :: undef :: undef :: undef :: undef :: undef :: undef :: undef :: undef :: undef :: undef :: undef :: undef :: undef :: undef :: undef :: undef :: undef :: undef :: undef :: undef :: undef :: undef :: undef :: undef :: undef :: undef :: undef :: undef :: undef :: undef :: undef :: undef :: undef :: undef :: undef :: undef :: undef :: undef :: undef :: undef :: undef :: undef :: undef :: undef :: undef :: undef :: undef :: undef :: undef :: undef :: undef :: undef :: undef :: undef :: undef :: undef :: undef :: undef :: undef :: undef :: undef :: undef :: undef :: undef :: undef :: undef :: undef :: undef :: undef :: undef :: undef :: []) w) → C ts w) ?_ ?_
  · intro l2 hl2
    simp only [List.take_succ_cons, List.take_zero, List.cons_append, List.nil_append]
    obtain ⟨i0, i1, i2, i3, i4, i5, i6, i7, i8, i9, i10, i11, i12, i13⟩ := H0.out.2.2.1
    simp only [Nat.zero_add] at i1
    obtain ⟨g0, g1, g2, g3, g4, g5, g6⟩ := H0.out.2.2.2
    clear i0 i2 i3 i4 i5 i6 i7 i8 i9 i10 i11 i12 i13 g1 g2 g3 g4 g5 g6 HW1 HW2
    cases kn
    · refine WP.cut 3 (fun ts w => ts = (.agg #[.int .i64 x.kind, .string x.name, .int .i64 x.n, .int .i64 x.a.kind, .int .i64 x.a.n, .string x.a.name, .slice aa na ca, .int .i64 x.b.kind, .int .i64 x.b.n, .string x.b.name, .slice ab nb cb, .slice ad nd cd, .slice ae ne ce, .slice ac nc cc] :: .agg #[.bool f0, .bool f1, .bool f2, .bool f3, .bool f4, .bool f5, .bool f6] :: .bool false :: .pointer (some ⟨B, 0, none⟩) :: .pointer (some ⟨B + 1, 0, none⟩) :: undef :: .int .i64 0 :: undef :: .bool false :: .bool true :: .bool true :: undef :: undef :: undef :: undef :: undef :: undef :: undef :: undef :: undef :: undef :: undef :: undef :: undef :: undef :: undef :: undef :: undef :: undef :: undef :: undef :: undef :: undef :: undef :: undef :: undef :: undef :: undef :: undef :: undef :: undef :: undef :: undef :: undef :: undef :: undef :: undef :: undef :: undef :: undef :: undef :: undef :: undef :: undef :: undef :: undef :: undef :: undef :: undef :: undef :: undef :: undef :: undef :: undef :: undef :: undef :: undef :: undef :: undef :: undef :: undef :: undef :: undef :: undef :: undef :: undef :: undef :: undef :: undef :: undef :: undef :: undef :: undef :: undef :: undef :: undef :: undef :: undef :: undef :: undef :: undef :: undef :: undef :: undef :: undef :: undef :: undef :: undef :: undef :: undef :: undef :: undef :: undef :: undef :: undef :: undef :: undef :: undef :: undef :: undef :: undef :: undef :: undef :: []) ∧ w = W2) ?_ ?_
      · intro l3 hl3
        simp only [List.take_succ_cons, List.take_zero, List.cons_append, List.nil_append]
        constructor
        go_wp2_with fail
        exact hl3 _ _ ⟨rfl, rfl⟩
      · rintro _ _ ⟨rfl, rfl⟩
        simp only [List.drop_succ_cons, List.drop_zero]
        iterate 4 refine WP.skip 2 10 false rfl rfl rfl rfl rfl rfl ?_
        iterate 3 refine WP.skip 6 14 true rfl rfl rfl rfl rfl rfl ?_
        refine WP.skip 2 10 false rfl rfl rfl rfl rfl rfl ?_
        constructor
        go_wp2_with fail
        exact hl2 _ _ fun C hC => hC _ _ _ _ _ _ _ _ _ _ _ _ _ _ (by rfl) H0.out
    · cases f0
      rotate_left 1
      · refine WP.cut 7 (fun ts w => ts = (.agg #[.int .i64 x.kind, .string x.name, .int .i64 x.n, .int .i64 x.a.kind, .int .i64 x.a.n, .string x.a.name, .slice aa na ca, .int .i64 x.b.kind, .int .i64 x.b.n, .string x.b.name, .slice ab nb cb, .slice ad nd cd, .slice ae ne ce, .slice ac nc cc] :: .agg #[.bool true, .bool f1, .bool f2, .bool f3, .bool f4, .bool f5, .bool f6] :: .bool true :: .pointer (some ⟨B, 0, none⟩) :: .pointer (some ⟨B + 1, 0, none⟩) :: undef :: .int .i64 0 :: undef :: .bool true :: .bool false :: .bool false :: .pointer (some ⟨B + 1, 0, none⟩) :: .bool true :: .bool false :: .bool false :: undef :: undef :: undef :: undef :: undef :: undef :: undef :: undef :: undef :: undef :: undef :: undef :: undef :: undef :: undef :: undef :: undef :: undef :: undef :: undef :: undef :: undef :: undef :: undef :: undef :: undef :: undef :: undef :: undef :: undef :: undef :: undef :: undef :: undef :: undef :: undef :: undef :: undef :: undef :: undef :: undef :: undef :: undef :: undef :: undef :: undef :: undef :: undef :: undef :: undef :: undef :: undef :: undef :: undef :: undef :: undef :: undef :: undef :: undef :: undef :: undef :: undef :: undef :: undef :: undef :: undef :: undef :: undef :: undef :: undef :: undef :: undef :: undef :: undef :: undef :: undef :: undef :: undef :: undef :: undef :: undef :: undef :: undef :: undef :: undef :: undef :: undef :: undef :: undef :: undef :: undef :: undef :: undef :: undef :: undef :: undef :: undef :: undef :: []) ∧ w = W2) ?_ ?_
        · intro l3 hl3
          simp only [List.take_succ_cons, List.take_zero, List.cons_append, List.nil_append]
          constructor
          go_wp2_with fail
          exact hl3 _ _ ⟨rfl, rfl⟩
        · rintro _ _ ⟨rfl, rfl⟩
          simp only [List.drop_succ_cons, List.drop_zero]
          iterate 3 refine WP.skip 6 14 true rfl rfl rfl rfl rfl rfl ?_
          constructor
          go_wp2_with fail
          exact hl2 _ _ fun C hC => hC _ _ _ _ _ _ _ _ _ _ _ _ _ _ (by rfl) H0.out
      · constructor
        go_wp2_with fail
        all_goals exact hl2 _ _ fun C hC => hC _ _ _ _ _ _ _ _ _ _ _ _ _ _ (by go_light; simp [isEmpty_dec]) H0.out
  · intro ts v r
    refine r (fun ts w => WP _ _ _ _ ts _ w) ?_
    intro u8 u9 u10 u11 u12 u13 u14 u15 u16 u17 u18 u19 q1 v1 hq1 h1
    clear r ts v
    have Q1 := Lib.hid hq1
    have G1 := Lib.hid h1
    clear hq1 h1
    simp only [List.drop_succ_cons, List.drop_zero]
    refine WP.cut 10 (fun ts w => ∀ C : List Value → World → Prop, (∀ (u8 u9 u10 u11 u12 u13 u14 u15 u16 u17 u18 u19 u20 u21 u22 u23 u24 u25 u26 u27 u28 u29 : Value) (q : Bool) (w : World), q = (q1 || (!f1 && decide (x.n ≠ 0))) → OwnAt W B x (.slice aa na ca) (.slice ab nb cb) (.slice ad nd cd) (.slice ae ne ce) (.slice ac nc cc) f0 f1 f2 f3 f4 f5 f6 w → C (.agg #[.int .i64 x.kind, .string x.name, .int .i64 x.n, .int .i64 x.a.kind, .int .i64 x.a.n, .string x.a.name, .slice aa na ca, .int .i64 x.b.kind, .int .i64 x.b.n, .string x.b.name, .slice ab nb cb, .slice ad nd cd, .slice ae ne ce, .slice ac nc cc] :: .agg #[.bool f0, .bool f1, .bool f2, .bool f3, .bool f4, .bool f5, .bool f6] :: .bool kn :: .pointer (some ⟨B, 0, none⟩) :: .pointer (some ⟨B + 1, 0, none⟩) :: undef :: .int .i64 0 :: undef :: u8 :: u9 :: u10 :: u11 :: u12 :: u13 :: u14 :: u15 :: u16 :: u17 :: u18 :: u19 :: u20 :: u21 :: u22 :: u23 :: u24 :: u25 :: u26 :: u27 :: u28 :: u29 :: .bool q :: undef :: undef :: undef :: undef :: undef :: undef :: undef :: undef :: undef :: undef :: undef :: undef :: undef :: undef :: undef :: undef :: undef :: undef :: undef :: undef :: undef :: undef :: undef :: undef :: undef :: undef :: undef :: undef :: undef :: undef :: undef :: undef :: undef :: undef :: undef :: undef :: undef :: undef :: undef :: undef :: undef :: undef :: undef :: undef :: undef :: undef :: undef :: undef :: undef :: undef :: undef :: undef :: undef :: undef :: undef :: undef :: undef :: undef :: undef :: undef :: undef :: undef :: undef :: undef :: undef :: undef :: undef :: undef :: undef :: undef :: undef :: undef :: undef :: undef :: undef :: undef :: undef :: undef :: undef :: undef :: undef :: undef :: []) w) → C ts w) ?_ ?_
    · intro l2 hl2
      simp only [List.take_succ_cons, List.take_zero, List.cons_append, List.nil_append]
      obtain ⟨i0, i1, i2, i3, i4, i5, i6, i7, i8, i9, i10, i11, i12, i13⟩ := G1.out.2.2.1
      simp only [Nat.zero_add] at i2
      obtain ⟨g0, g1, g2, g3, g4, g5, g6⟩ := G1.out.2.2.2
      clear i0 i1 i3 i4 i5 i6 i7 i8 i9 i10 i11 i12 i13 g0 g2 g3 g4 g5 g6 HW1 HW2 Q1
      cases q1
      rotate_left 1
      · iterate 4 refine WP.skip 12 20 false rfl rfl rfl rfl rfl rfl ?_
        iterate 3 refine WP.skip 16 24 true rfl rfl rfl rfl rfl rfl ?_
        refine WP.skip 12 20 false rfl rfl rfl rfl rfl rfl ?_
        constructor
        go_wp2_with fail
        exact hl2 _ _ fun C hC => hC _ _ _ _ _ _ _ _ _ _ _ _ _ _ _ _ _ _ _ _ _ _ _ _ (by rfl) G1.out
      · cases f1
        rotate_left 1
        · refine WP.cut 4 (fun ts w => ts = (.agg #[.int .i64 x.kind, .string x.name, .int .i64 x.n, .int .i64 x.a.kind, .int .i64 x.a.n, .string x.a.name, .slice aa na ca, .int .i64 x.b.kind, .int .i64 x.b.n, .string x.b.name, .slice ab nb cb, .slice ad nd cd, .slice ae ne ce, .slice ac nc cc] :: .agg #[.bool f0, .bool true, .bool f2, .bool f3, .bool f4, .bool f5, .bool f6] :: .bool kn :: .pointer (some ⟨B, 0, none⟩) :: .pointer (some ⟨B + 1, 0, none⟩) :: undef :: .int .i64 0 :: undef :: u8 :: u9 :: u10 :: u11 :: u12 :: u13 :: u14 :: u15 :: u16 :: u17 :: u18 :: u19 :: .bool false :: .pointer (some ⟨B + 1, 1, none⟩) :: .bool true :: .bool false :: .bool false :: undef :: undef :: undef :: undef :: undef :: undef :: undef :: undef :: undef :: undef :: undef :: undef :: undef :: undef :: undef :: undef :: undef :: undef :: undef :: undef :: undef :: undef :: undef :: undef :: undef :: undef :: undef :: undef :: undef :: undef :: undef :: undef :: undef :: undef :: undef :: undef :: undef :: undef :: undef :: undef :: undef :: undef :: undef :: undef :: undef :: undef :: undef :: undef :: undef :: undef :: undef :: undef :: undef :: undef :: undef :: undef :: undef :: undef :: undef :: undef :: undef :: undef :: undef :: undef :: undef :: undef :: undef :: undef :: undef :: undef :: undef :: undef :: undef :: undef :: undef :: undef :: undef :: undef :: undef :: undef :: undef :: undef :: undef :: undef :: undef :: undef :: undef :: undef :: []) ∧ w = v1) ?_ ?_
          · intro l3 hl3
            simp only [List.take_succ_cons, List.take_zero, List.cons_append, List.nil_append]
            constructor
            go_wp2_with fail
            exact hl3 _ _ ⟨rfl, rfl⟩
          · rintro _ _ ⟨rfl, rfl⟩
            simp only [List.drop_succ_cons, List.drop_zero]
            iterate 3 refine WP.skip 16 24 true rfl rfl rfl rfl rfl rfl ?_
            constructor
            go_wp2_with fail
            exact hl2 _ _ fun C hC => hC _ _ _ _ _ _ _ _ _ _ _ _ _ _ _ _ _ _ _ _ _ _ _ _ (by rfl) G1.out
        · constructor
          go_wp2_with fail
          all_goals exact hl2 _ _ fun C hC => hC _ _ _ _ _ _ _ _ _ _ _ _ _ _ _ _ _ _ _ _ _ _ _ _ (by go_light; simp [ne_dec]) G1.out
    · intro ts v r
      refine r (fun ts w => WP _ _ _ _ ts _ w) ?_
      intro u8 u9 u10 u11 u12 u13 u14 u15 u16 u17 u18 u19 u20 u21 u22 u23 u24 u25 u26 u27 u28 u29 q2 v2 hq2 h2
      clear r ts v
      have Q2 := Lib.hid hq2
      have G2 := Lib.hid h2
      clear hq2 h2
      simp only [List.drop_succ_cons, List.drop_zero]
      refine WP.cut 11 (fun ts w => ∀ C : List Value → World → Prop, (∀ (u8 u9 u10 u11 u12 u13 u14 u15 u16 u17 u18 u19 u20 u21 u22 u23 u24 u25 u26 u27 u28 u29 u30 u31 u32 u33 u34 u35 u36 u37 u38 u39 u40 : Value) (q : Bool) (w : World), q = (q2 || (!f2 && !x.a.zero)) → OwnAt W B x (.slice aa na ca) (.slice ab nb cb) (.slice ad nd cd) (.slice ae ne ce) (.slice ac nc cc) f0 f1 f2 f3 f4 f5 f6 w → C (.agg #[.int .i64 x.kind, .string x.name, .int .i64 x.n, .int .i64 x.a.kind, .int .i64 x.a.n, .string x.a.name, .slice aa na ca, .int .i64 x.b.kind, .int .i64 x.b.n, .string x.b.name, .slice ab nb cb, .slice ad nd cd, .slice ae ne ce, .slice ac nc cc] :: .agg #[.bool f0, .bool f1, .bool f2, .bool f3, .bool f4, .bool f5, .bool f6] :: .bool kn :: .pointer (some ⟨B, 0, none⟩) :: .pointer (some ⟨B + 1, 0, none⟩) :: undef :: .int .i64 0 :: undef :: u8 :: u9 :: u10 :: u11 :: u12 :: u13 :: u14 :: u15 :: u16 :: u17 :: u18 :: u19 :: u20 :: u21 :: u22 :: u23 :: u24 :: u25 :: u26 :: u27 :: u28 :: u29 :: u30 :: u31 :: u32 :: u33 :: u34 :: u35 :: u36 :: u37 :: u38 :: u39 :: u40 :: .bool q :: undef :: undef :: undef :: undef :: undef :: undef :: undef :: undef :: undef :: undef :: undef :: undef :: undef :: undef :: undef :: undef :: undef :: undef :: undef :: undef :: undef :: undef :: undef :: undef :: undef :: undef :: undef :: undef :: undef :: undef :: undef :: undef :: undef :: undef :: undef :: undef :: undef :: undef :: undef :: undef :: undef :: undef :: undef :: undef :: undef :: undef :: undef :: undef :: undef :: undef :: undef :: undef :: undef :: undef :: undef :: undef :: undef :: undef :: undef :: undef :: undef :: undef :: undef :: undef :: undef :: undef :: undef :: undef :: undef :: undef :: undef :: []) w) → C ts w) ?_ ?_
      · intro l2 hl2
        simp only [List.take_succ_cons, List.take_zero, List.cons_append, List.nil_append]
        obtain ⟨i0, i1, i2, i3, i4, i5, i6, i7, i8, i9, i10, i11, i12, i13⟩ := G2.out.2.2.1
        simp only [Nat.zero_add] at i3 i4 i5 i6
        obtain ⟨g0, g1, g2, g3, g4, g5, g6⟩ := G2.out.2.2.2
        clear i0 i1 i2 i7 i8 i9 i10 i11 i12 i13 g0 g1 g3 g4 g5 g6 HW1 HW2 Q1 Q2
        cases q2
        rotate_left 1
        · iterate 4 refine WP.skip 22 30 false rfl rfl rfl rfl rfl rfl ?_
          iterate 4 refine WP.skip 26 34 true rfl rfl rfl rfl rfl rfl ?_
          refine WP.skip 22 30 false rfl rfl rfl rfl rfl rfl ?_
          constructor
          go_wp2_with fail
          exact hl2 _ _ fun C hC => hC _ _ _ _ _ _ _ _ _ _ _ _ _ _ _ _ _ _ _ _ _ _ _ _ _ _ _ _ _ _ _ _ _ _ _ (by rfl) G2.out
        · cases f2
          rotate_left 1
          · refine WP.cut 4 (fun ts w => ts = (.agg #[.int .i64 x.kind, .string x.name, .int .i64 x.n, .int .i64 x.a.kind, .int .i64 x.a.n, .string x.a.name, .slice aa na ca, .int .i64 x.b.kind, .int .i64 x.b.n, .string x.b.name, .slice ab nb cb, .slice ad nd cd, .slice ae ne ce, .slice ac nc cc] :: .agg #[.bool f0, .bool f1, .bool true, .bool f3, .bool f4, .bool f5, .bool f6] :: .bool kn :: .pointer (some ⟨B, 0, none⟩) :: .pointer (some ⟨B + 1, 0, none⟩) :: undef :: .int .i64 0 :: undef :: u8 :: u9 :: u10 :: u11 :: u12 :: u13 :: u14 :: u15 :: u16 :: u17 :: u18 :: u19 :: u20 :: u21 :: u22 :: u23 :: u24 :: u25 :: u26 :: u27 :: u28 :: u29 :: .bool false :: .pointer (some ⟨B + 1, 2, none⟩) :: .bool true :: .bool false :: .bool false :: undef :: undef :: undef :: undef :: undef :: undef :: undef :: undef :: undef :: undef :: undef :: undef :: undef :: undef :: undef :: undef :: undef :: undef :: undef :: undef :: undef :: undef :: undef :: undef :: undef :: undef :: undef :: undef :: undef :: undef :: undef :: undef :: undef :: undef :: undef :: undef :: undef :: undef :: undef :: undef :: undef :: undef :: undef :: undef :: undef :: undef :: undef :: undef :: undef :: undef :: undef :: undef :: undef :: undef :: undef :: undef :: undef :: undef :: undef :: undef :: undef :: undef :: undef :: undef :: undef :: undef :: undef :: undef :: undef :: undef :: undef :: undef :: undef :: undef :: undef :: undef :: undef :: undef :: []) ∧ w = v2) ?_ ?_
            · intro l3 hl3
              simp only [List.take_succ_cons, List.take_zero, List.cons_append, List.nil_append]
              constructor
              go_wp2_with fail
              exact hl3 _ _ ⟨rfl, rfl⟩
            · rintro _ _ ⟨rfl, rfl⟩
              simp only [List.drop_succ_cons, List.drop_zero]
              iterate 4 refine WP.skip 26 34 true rfl rfl rfl rfl rfl rfl ?_
              constructor
              go_wp2_with fail
              exact hl2 _ _ fun C hC => hC _ _ _ _ _ _ _ _ _ _ _ _ _ _ _ _ _ _ _ _ _ _ _ _ _ _ _ _ _ _ _ _ _ _ _ (by rfl) G2.out
          · constructor
            go_wp2_with fail
            refine (zero_any x.a (.slice aa na ca) aa ca _ (by rw [Hl.out.1])).mono ?_
            rintro e w3 ⟨rfl, hb3⟩
            have H3 := ownStep G2 hb3
            obtain ⟨z, hz⟩ : ∃ z, z = x.a.zero := ⟨_, rfl⟩
            rw [← hz]
            have Hz := Lib.hid hz
            clear hz hb3 i3 i4 i5 i6 g2
            cases z
            all_goals
              go_wp2_with fail
              exact hl2 _ _ fun C hC => hC _ _ _ _ _ _ _ _ _ _ _ _ _ _ _ _ _ _ _ _ _ _ _ _ _ _ _ _ _ _ _ _ _ _ _ (by have hz := Hz.out; go_light; simp_all) H3.out
      · intro ts v r
        refine r (fun ts w => WP _ _ _ _ ts _ w) ?_
        intro u8 u9 u10 u11 u12 u13 u14 u15 u16 u17 u18 u19 u20 u21 u22 u23 u24 u25 u26 u27 u28 u29 u30 u31 u32 u33 u34 u35 u36 u37 u38 u39 u40 q3 v3 hq3 h3
        clear r ts v
        have Q3 := Lib.hid hq3
        have G3 := Lib.hid h3
        clear hq3 h3
        simp only [List.drop_succ_cons, List.drop_zero]
        refine WP.cut 11 (fun ts w => ∀ C : List Value → World → Prop, (∀ (u8 u9 u10 u11 u12 u13 u14 u15 u16 u17 u18 u19 u20 u21 u22 u23 u24 u25 u26 u27 u28 u29 u30 u31 u32 u33 u34 u35 u36 u37 u38 u39 u40 u41 u42 u43 u44 u45 u46 u47 u48 u49 u50 u51 : Value) (q : Bool) (w : World), q = (q3 || (!f3 && !x.b.zero)) → OwnAt W B x (.slice aa na ca) (.slice ab nb cb) (.slice ad nd cd) (.slice ae ne ce) (.slice ac nc cc) f0 f1 f2 f3 f4 f5 f6 w → C (.agg #[.int .i64 x.kind, .string x.name, .int .i64 x.n, .int .i64 x.a.kind, .int .i64 x.a.n, .string x.a.name, .slice aa na ca, .int .i64 x.b.kind, .int .i64 x.b.n, .string x.b.name, .slice ab nb cb, .slice ad nd cd, .slice ae ne ce, .slice ac nc cc] :: .agg #[.bool f0, .bool f1, .bool f2, .bool f3, .bool f4, .bool f5, .bool f6] :: .bool kn :: .pointer (some ⟨B, 0, none⟩) :: .pointer (some ⟨B + 1, 0, none⟩) :: undef :: .int .i64 0 :: undef :: u8 :: u9 :: u10 :: u11 :: u12 :: u13 :: u14 :: u15 :: u16 :: u17 :: u18 :: u19 :: u20 :: u21 :: u22 :: u23 :: u24 :: u25 :: u26 :: u27 :: u28 :: u29 :: u30 :: u31 :: u32 :: u33 :: u34 :: u35 :: u36 :: u37 :: u38 :: u39 :: u40 :: u41 :: u42 :: u43 :: u44 :: u45 :: u46 :: u47 :: u48 :: u49 :: u50 :: u51 :: .bool q :: undef :: undef :: undef :: undef :: undef :: undef :: undef :: undef :: undef :: undef :: undef :: undef :: undef :: undef :: undef :: undef :: undef :: undef :: undef :: undef :: undef :: undef :: undef :: undef :: undef :: undef :: undef :: undef :: undef :: undef :: undef :: undef :: undef :: undef :: undef :: undef :: undef :: undef :: undef :: undef :: undef :: undef :: undef :: undef :: undef :: undef :: undef :: undef :: undef :: undef :: undef :: undef :: undef :: undef :: undef :: undef :: undef :: undef :: undef :: undef :: []) w) → C ts w) ?_ ?_
        · intro l2 hl2
          simp only [List.take_succ_cons, List.take_zero, List.cons_append, List.nil_append]
          obtain ⟨i0, i1, i2, i3, i4, i5, i6, i7, i8, i9, i10, i11, i12, i13⟩ := G3.out.2.2.1
          simp only [Nat.zero_add] at i7 i8 i9 i10
          obtain ⟨g0, g1, g2, g3, g4, g5, g6⟩ := G3.out.2.2.2
          clear i0 i1 i2 i3 i4 i5 i6 i11 i12 i13 g0 g1 g2 g4 g5 g6 HW1 HW2 Q1 Q2 Q3
          cases q3
          rotate_left 1
          · iterate 4 refine WP.skip 33 41 false rfl rfl rfl rfl rfl rfl ?_
            iterate 4 refine WP.skip 37 45 true rfl rfl rfl rfl rfl rfl ?_
            refine WP.skip 33 41 false rfl rfl rfl rfl rfl rfl ?_
            constructor
            go_wp2_with fail
            exact hl2 _ _ fun C hC => hC _ _ _ _ _ _ _ _ _ _ _ _ _ _ _ _ _ _ _ _ _ _ _ _ _ _ _ _ _ _ _ _ _ _ _ _ _ _ _ _ _ _ _ _ _ _ (by rfl) G3.out
          · cases f3
            rotate_left 1
            · refine WP.cut 4 (fun ts w => ts = (.agg #[.int .i64 x.kind, .string x.name, .int .i64 x.n, .int .i64 x.a.kind, .int .i64 x.a.n, .string x.a.name, .slice aa na ca, .int .i64 x.b.kind, .int .i64 x.b.n, .string x.b.name, .slice ab nb cb, .slice ad nd cd, .slice ae ne ce, .slice ac nc cc] :: .agg #[.bool f0, .bool f1, .bool f2, .bool true, .bool f4, .bool f5, .bool f6] :: .bool kn :: .pointer (some ⟨B, 0, none⟩) :: .pointer (some ⟨B + 1, 0, none⟩) :: undef :: .int .i64 0 :: undef :: u8 :: u9 :: u10 :: u11 :: u12 :: u13 :: u14 :: u15 :: u16 :: u17 :: u18 :: u19 :: u20 :: u21 :: u22 :: u23 :: u24 :: u25 :: u26 :: u27 :: u28 :: u29 :: u30 :: u31 :: u32 :: u33 :: u34 :: u35 :: u36 :: u37 :: u38 :: u39 :: u40 :: .bool false :: .pointer (some ⟨B + 1, 3, none⟩) :: .bool true :: .bool false :: .bool false :: undef :: undef :: undef :: undef :: undef :: undef :: undef :: undef :: undef :: undef :: undef :: undef :: undef :: undef :: undef :: undef :: undef :: undef :: undef :: undef :: undef :: undef :: undef :: undef :: undef :: undef :: undef :: undef :: undef :: undef :: undef :: undef :: undef :: undef :: undef :: undef :: undef :: undef :: undef :: undef :: undef :: undef :: undef :: undef :: undef :: undef :: undef :: undef :: undef :: undef :: undef :: undef :: undef :: undef :: undef :: undef :: undef :: undef :: undef :: undef :: undef :: undef :: undef :: undef :: undef :: undef :: undef :: []) ∧ w = v3) ?_ ?_
              · intro l3 hl3
                simp only [List.take_succ_cons, List.take_zero, List.cons_append, List.nil_append]
                constructor
                go_wp2_with fail
                exact hl3 _ _ ⟨rfl, rfl⟩
              · rintro _ _ ⟨rfl, rfl⟩
                simp only [List.drop_succ_cons, List.drop_zero]
                iterate 4 refine WP.skip 37 45 true rfl rfl rfl rfl rfl rfl ?_
                constructor
                go_wp2_with fail
                exact hl2 _ _ fun C hC => hC _ _ _ _ _ _ _ _ _ _ _ _ _ _ _ _ _ _ _ _ _ _ _ _ _ _ _ _ _ _ _ _ _ _ _ _ _ _ _ _ _ _ _ _ _ _ (by rfl) G3.out
            · constructor
              go_wp2_with fail
              refine (zero_any x.b (.slice ab nb cb) ab cb _ (by rw [Hl.out.2.1])).mono ?_
              rintro e w3 ⟨rfl, hb3⟩
              have H3 := ownStep G3 hb3
              obtain ⟨z, hz⟩ : ∃ z, z = x.b.zero := ⟨_, rfl⟩
              rw [← hz]
              have Hz := Lib.hid hz
              clear hz hb3 i7 i8 i9 i10 g3
              cases z
              all_goals
                go_wp2_with fail
                exact hl2 _ _ fun C hC => hC _ _ _ _ _ _ _ _ _ _ _ _ _ _ _ _ _ _ _ _ _ _ _ _ _ _ _ _ _ _ _ _ _ _ _ _ _ _ _ _ _ _ _ _ _ _ (by have hz := Hz.out; go_light; simp_all) H3.out
        · intro ts v r
          refine r (fun ts w => WP _ _ _ _ ts _ w) ?_
          intro u8 u9 u10 u11 u12 u13 u14 u15 u16 u17 u18 u19 u20 u21 u22 u23 u24 u25 u26 u27 u28 u29 u30 u31 u32 u33 u34 u35 u36 u37 u38 u39 u40 u41 u42 u43 u44 u45 u46 u47 u48 u49 u50 u51 q4 v4 hq4 h4
          clear r ts v
          have Q4 := Lib.hid hq4
          have G4 := Lib.hid h4
          clear hq4 h4
          simp only [List.drop_succ_cons, List.drop_zero]
          refine WP.cut 11 (fun ts w => ∀ C : List Value → World → Prop, (∀ (u8 u9 u10 u11 u12 u13 u14 u15 u16 u17 u18 u19 u20 u21 u22 u23 u24 u25 u26 u27 u28 u29 u30 u31 u32 u33 u34 u35 u36 u37 u38 u39 u40 u41 u42 u43 u44 u45 u46 u47 u48 u49 u50 u51 u52 u53 u54 u55 u56 u57 u58 u59 u60 u61 u62 : Value) (q : Bool) (w : World), q = (q4 || (!f4 && decide (0 < nd))) → OwnAt W B x (.slice aa na ca) (.slice ab nb cb) (.slice ad nd cd) (.slice ae ne ce) (.slice ac nc cc) f0 f1 f2 f3 f4 f5 f6 w → C (.agg #[.int .i64 x.kind, .string x.name, .int .i64 x.n, .int .i64 x.a.kind, .int .i64 x.a.n, .string x.a.name, .slice aa na ca, .int .i64 x.b.kind, .int .i64 x.b.n, .string x.b.name, .slice ab nb cb, .slice ad nd cd, .slice ae ne ce, .slice ac nc cc] :: .agg #[.bool f0, .bool f1, .bool f2, .bool f3, .bool f4, .bool f5, .bool f6] :: .bool kn :: .pointer (some ⟨B, 0, none⟩) :: .pointer (some ⟨B + 1, 0, none⟩) :: undef :: .int .i64 0 :: undef :: u8 :: u9 :: u10 :: u11 :: u12 :: u13 :: u14 :: u15 :: u16 :: u17 :: u18 :: u19 :: u20 :: u21 :: u22 :: u23 :: u24 :: u25 :: u26 :: u27 :: u28 :: u29 :: u30 :: u31 :: u32 :: u33 :: u34 :: u35 :: u36 :: u37 :: u38 :: u39 :: u40 :: u41 :: u42 :: u43 :: u44 :: u45 :: u46 :: u47 :: u48 :: u49 :: u50 :: u51 :: u52 :: u53 :: u54 :: u55 :: u56 :: u57 :: u58 :: u59 :: u60 :: u61 :: u62 :: .bool q :: undef :: undef :: undef :: undef :: undef :: undef :: undef :: undef :: undef :: undef :: undef :: undef :: undef :: undef :: undef :: undef :: undef :: undef :: undef :: undef :: undef :: undef :: undef :: undef :: undef :: undef :: undef :: undef :: undef :: undef :: undef :: undef :: undef :: undef :: undef :: undef :: undef :: undef :: undef :: undef :: undef :: undef :: undef :: undef :: undef :: undef :: undef :: undef :: undef :: []) w) → C ts w) ?_ ?_
          · intro l2 hl2
            simp only [List.take_succ_cons, List.take_zero, List.cons_append, List.nil_append]
            obtain ⟨i0, i1, i2, i3, i4, i5, i6, i7, i8, i9, i10, i11, i12, i13⟩ := G4.out.2.2.1
            simp only [Nat.zero_add] at i11
            obtain ⟨g0, g1, g2, g3, g4, g5, g6⟩ := G4.out.2.2.2
            clear i0 i1 i2 i3 i4 i5 i6 i7 i8 i9 i10 i12 i13 g0 g1 g2 g3 g5 g6 HW1 HW2 Q1 Q2 Q3 Q4
            cases q4
            rotate_left 1
            · iterate 4 refine WP.skip 44 52 false rfl rfl rfl rfl rfl rfl ?_
              iterate 4 refine WP.skip 48 56 true rfl rfl rfl rfl rfl rfl ?_
              refine WP.skip 44 52 false rfl rfl rfl rfl rfl rfl ?_
              constructor
              go_wp2_with fail
              exact hl2 _ _ fun C hC => hC _ _ _ _ _ _ _ _ _ _ _ _ _ _ _ _ _ _ _ _ _ _ _ _ _ _ _ _ _ _ _ _ _ _ _ _ _ _ _ _ _ _ _ _ _ _ _ _ _ _ _ _ _ _ _ _ _ (by rfl) G4.out
            · cases f4
              rotate_left 1
              · refine WP.cut 4 (fun ts w => ts = (.agg #[.int .i64 x.kind, .string x.name, .int .i64 x.n, .int .i64 x.a.kind, .int .i64 x.a.n, .string x.a.name, .slice aa na ca, .int .i64 x.b.kind, .int .i64 x.b.n, .string x.b.name, .slice ab nb cb, .slice ad nd cd, .slice ae ne ce, .slice ac nc cc] :: .agg #[.bool f0, .bool f1, .bool f2, .bool f3, .bool true, .bool f5, .bool f6] :: .bool kn :: .pointer (some ⟨B, 0, none⟩) :: .pointer (some ⟨B + 1, 0, none⟩) :: undef :: .int .i64 0 :: undef :: u8 :: u9 :: u10 :: u11 :: u12 :: u13 :: u14 :: u15 :: u16 :: u17 :: u18 :: u19 :: u20 :: u21 :: u22 :: u23 :: u24 :: u25 :: u26 :: u27 :: u28 :: u29 :: u30 :: u31 :: u32 :: u33 :: u34 :: u35 :: u36 :: u37 :: u38 :: u39 :: u40 :: u41 :: u42 :: u43 :: u44 :: u45 :: u46 :: u47 :: u48 :: u49 :: u50 :: u51 :: .bool false :: .pointer (some ⟨B + 1, 4, none⟩) :: .bool true :: .bool false :: .bool false :: undef :: undef :: undef :: undef :: undef :: undef :: undef :: undef :: undef :: undef :: undef :: undef :: undef :: undef :: undef :: undef :: undef :: undef :: undef :: undef :: undef :: undef :: undef :: undef :: undef :: undef :: undef :: undef :: undef :: undef :: undef :: undef :: undef :: undef :: undef :: undef :: undef :: undef :: undef :: undef :: undef :: undef :: undef :: undef :: undef :: undef :: undef :: undef :: undef :: undef :: undef :: undef :: undef :: undef :: undef :: undef :: []) ∧ w = v4) ?_ ?_
                · intro l3 hl3
                  simp only [List.take_succ_cons, List.take_zero, List.cons_append, List.nil_append]
                  constructor
                  go_wp2_with fail
                  exact hl3 _ _ ⟨rfl, rfl⟩
                · rintro _ _ ⟨rfl, rfl⟩
                  simp only [List.drop_succ_cons, List.drop_zero]
                  iterate 4 refine WP.skip 48 56 true rfl rfl rfl rfl rfl rfl ?_
                  constructor
                  go_wp2_with fail
                  exact hl2 _ _ fun C hC => hC _ _ _ _ _ _ _ _ _ _ _ _ _ _ _ _ _ _ _ _ _ _ _ _ _ _ _ _ _ _ _ _ _ _ _ _ _ _ _ _ _ _ _ _ _ _ _ _ _ _ _ _ _ _ _ _ _ (by rfl) G4.out
              · constructor
                go_wp2_with fail
                all_goals exact hl2 _ _ fun C hC => hC _ _ _ _ _ _ _ _ _ _ _ _ _ _ _ _ _ _ _ _ _ _ _ _ _ _ _ _ _ _ _ _ _ _ _ _ _ _ _ _ _ _ _ _ _ _ _ _ _ _ _ _ _ _ _ _ _ (by go_light; simp_all) G4.out
          · intro ts v r
            refine r (fun ts w => WP _ _ _ _ ts _ w) ?_
            intro u8 u9 u10 u11 u12 u13 u14 u15 u16 u17 u18 u19 u20 u21 u22 u23 u24 u25 u26 u27 u28 u29 u30 u31 u32 u33 u34 u35 u36 u37 u38 u39 u40 u41 u42 u43 u44 u45 u46 u47 u48 u49 u50 u51 u52 u53 u54 u55 u56 u57 u58 u59 u60 u61 u62 q5 v5 hq5 h5
            clear r ts v
            have Q5 := Lib.hid hq5
            have G5 := Lib.hid h5
            clear hq5 h5
            simp only [List.drop_succ_cons, List.drop_zero]
            refine WP.cut 11 (fun ts w => ∀ C : List Value → World → Prop, (∀ (u8 u9 u10 u11 u12 u13 u14 u15 u16 u17 u18 u19 u20 u21 u22 u23 u24 u25 u26 u27 u28 u29 u30 u31 u32 u33 u34 u35 u36 u37 u38 u39 u40 u41 u42 u43 u44 u45 u46 u47 u48 u49 u50 u51 u52 u53 u54 u55 u56 u57 u58 u59 u60 u61 u62 u63 u64 u65 u66 u67 u68 u69 u70 u71 u72 u73 : Value) (q : Bool) (w : World), q = (q5 || (!f5 && decide (0 < ne))) → OwnAt W B x (.slice aa na ca) (.slice ab nb cb) (.slice ad nd cd) (.slice ae ne ce) (.slice ac nc cc) f0 f1 f2 f3 f4 f5 f6 w → C (.agg #[.int .i64 x.kind, .string x.name, .int .i64 x.n, .int .i64 x.a.kind, .int .i64 x.a.n, .string x.a.name, .slice aa na ca, .int .i64 x.b.kind, .int .i64 x.b.n, .string x.b.name, .slice ab nb cb, .slice ad nd cd, .slice ae ne ce, .slice ac nc cc] :: .agg #[.bool f0, .bool f1, .bool f2, .bool f3, .bool f4, .bool f5, .bool f6] :: .bool kn :: .pointer (some ⟨B, 0, none⟩) :: .pointer (some ⟨B + 1, 0, none⟩) :: undef :: .int .i64 0 :: undef :: u8 :: u9 :: u10 :: u11 :: u12 :: u13 :: u14 :: u15 :: u16 :: u17 :: u18 :: u19 :: u20 :: u21 :: u22 :: u23 :: u24 :: u25 :: u26 :: u27 :: u28 :: u29 :: u30 :: u31 :: u32 :: u33 :: u34 :: u35 :: u36 :: u37 :: u38 :: u39 :: u40 :: u41 :: u42 :: u43 :: u44 :: u45 :: u46 :: u47 :: u48 :: u49 :: u50 :: u51 :: u52 :: u53 :: u54 :: u55 :: u56 :: u57 :: u58 :: u59 :: u60 :: u61 :: u62 :: u63 :: u64 :: u65 :: u66 :: u67 :: u68 :: u69 :: u70 :: u71 :: u72 :: u73 :: .bool q :: undef :: undef :: undef :: undef :: undef :: undef :: undef :: undef :: undef :: undef :: undef :: undef :: undef :: undef :: undef :: undef :: undef :: undef :: undef :: undef :: undef :: undef :: undef :: undef :: undef :: undef :: undef :: undef :: undef :: undef :: undef :: undef :: undef :: undef :: undef :: undef :: undef :: undef :: []) w) → C ts w) ?_ ?_
            · intro l2 hl2
              simp only [List.take_succ_cons, List.take_zero, List.cons_append, List.nil_append]
              obtain ⟨i0, i1, i2, i3, i4, i5, i6, i7, i8, i9, i10, i11, i12, i13⟩ := G5.out.2.2.1
              simp only [Nat.zero_add] at i12
              obtain ⟨g0, g1, g2, g3, g4, g5, g6⟩ := G5.out.2.2.2
              clear i0 i1 i2 i3 i4 i5 i6 i7 i8 i9 i10 i11 i13 g0 g1 g2 g3 g4 g6 HW1 HW2 Q1 Q2 Q3 Q4 Q5
              cases q5
              rotate_left 1
              · iterate 4 refine WP.skip 55 63 false rfl rfl rfl rfl rfl rfl ?_
                iterate 4 refine WP.skip 59 67 true rfl rfl rfl rfl rfl rfl ?_
                refine WP.skip 55 63 false rfl rfl rfl rfl rfl rfl ?_
                constructor
                go_wp2_with fail
                exact hl2 _ _ fun C hC => hC _ _ _ _ _ _ _ _ _ _ _ _ _ _ _ _ _ _ _ _ _ _ _ _ _ _ _ _ _ _ _ _ _ _ _ _ _ _ _ _ _ _ _ _ _ _ _ _ _ _ _ _ _ _ _ _ _ _ _ _ _ _ _ _ _ _ _ _ (by rfl) G5.out
              · cases f5
                rotate_left 1
                · refine WP.cut 4 (fun ts w => ts = (.agg #[.int .i64 x.kind, .string x.name, .int .i64 x.n, .int .i64 x.a.kind, .int .i64 x.a.n, .string x.a.name, .slice aa na ca, .int .i64 x.b.kind, .int .i64 x.b.n, .string x.b.name, .slice ab nb cb, .slice ad nd cd, .slice ae ne ce, .slice ac nc cc] :: .agg #[.bool f0, .bool f1, .bool f2, .bool f3, .bool f4, .bool true, .bool f6] :: .bool kn :: .pointer (some ⟨B, 0, none⟩) :: .pointer (some ⟨B + 1, 0, none⟩) :: undef :: .int .i64 0 :: undef :: u8 :: u9 :: u10 :: u11 :: u12 :: u13 :: u14 :: u15 :: u16 :: u17 :: u18 :: u19 :: u20 :: u21 :: u22 :: u23 :: u24 :: u25 :: u26 :: u27 :: u28 :: u29 :: u30 :: u31 :: u32 :: u33 :: u34 :: u35 :: u36 :: u37 :: u38 :: u39 :: u40 :: u41 :: u42 :: u43 :: u44 :: u45 :: u46 :: u47 :: u48 :: u49 :: u50 :: u51 :: u52 :: u53 :: u54 :: u55 :: u56 :: u57 :: u58 :: u59 :: u60 :: u61 :: u62 :: .bool false :: .pointer (some ⟨B + 1, 5, none⟩) :: .bool true :: .bool false :: .bool false :: undef :: undef :: undef :: undef :: undef :: undef :: undef :: undef :: undef :: undef :: undef :: undef :: undef :: undef :: undef :: undef :: undef :: undef :: undef :: undef :: undef :: undef :: undef :: undef :: undef :: undef :: undef :: undef :: undef :: undef :: undef :: undef :: undef :: undef :: undef :: undef :: undef :: undef :: undef :: undef :: undef :: undef :: undef :: undef :: undef :: []) ∧ w = v5) ?_ ?_
                  · intro l3 hl3
                    simp only [List.take_succ_cons, List.take_zero, List.cons_append, List.nil_append]
                    constructor
                    go_wp2_with fail
                    exact hl3 _ _ ⟨rfl, rfl⟩
                  · rintro _ _ ⟨rfl, rfl⟩
                    simp only [List.drop_succ_cons, List.drop_zero]
                    iterate 4 refine WP.skip 59 67 true rfl rfl rfl rfl rfl rfl ?_
                    constructor
                    go_wp2_with fail
                    exact hl2 _ _ fun C hC => hC _ _ _ _ _ _ _ _ _ _ _ _ _ _ _ _ _ _ _ _ _ _ _ _ _ _ _ _ _ _ _ _ _ _ _ _ _ _ _ _ _ _ _ _ _ _ _ _ _ _ _ _ _ _ _ _ _ _ _ _ _ _ _ _ _ _ _ _ (by rfl) G5.out
                · constructor
                  go_wp2_with fail
                  all_goals exact hl2 _ _ fun C hC => hC _ _ _ _ _ _ _ _ _ _ _ _ _ _ _ _ _ _ _ _ _ _ _ _ _ _ _ _ _ _ _ _ _ _ _ _ _ _ _ _ _ _ _ _ _ _ _ _ _ _ _ _ _ _ _ _ _ _ _ _ _ _ _ _ _ _ _ _ (by go_light; simp_all) G5.out
            · intro ts v r
              refine r (fun ts w => WP _ _ _ _ ts _ w) ?_
              intro u8 u9 u10 u11 u12 u13 u14 u15 u16 u17 u18 u19 u20 u21 u22 u23 u24 u25 u26 u27 u28 u29 u30 u31 u32 u33 u34 u35 u36 u37 u38 u39 u40 u41 u42 u43 u44 u45 u46 u47 u48 u49 u50 u51 u52 u53 u54 u55 u56 u57 u58 u59 u60 u61 u62 u63 u64 u65 u66 u67 u68 u69 u70 u71 u72 u73 q6 v6 hq6 h6
              clear r ts v
              have Q6 := Lib.hid hq6
              have G6 := Lib.hid h6
              clear hq6 h6
              simp only [List.drop_succ_cons, List.drop_zero]
              refine WP.cut 11 (fun ts w => ∀ C : List Value → World → Prop, (∀ (u8 u9 u10 u11 u12 u13 u14 u15 u16 u17 u18 u19 u20 u21 u22 u23 u24 u25 u26 u27 u28 u29 u30 u31 u32 u33 u34 u35 u36 u37 u38 u39 u40 u41 u42 u43 u44 u45 u46 u47 u48 u49 u50 u51 u52 u53 u54 u55 u56 u57 u58 u59 u60 u61 u62 u63 u64 u65 u66 u67 u68 u69 u70 u71 u72 u73 u74 u75 u76 u77 u78 u79 u80 u81 u82 u83 : Value) (q : Bool) (w : World), q = (q6 || (!f6 && decide (0 < nc))) → OwnAt W B x (.slice aa na ca) (.slice ab nb cb) (.slice ad nd cd) (.slice ae ne ce) (.slice ac nc cc) f0 f1 f2 f3 f4 f5 f6 w → C (.agg #[.int .i64 x.kind, .string x.name, .int .i64 x.n, .int .i64 x.a.kind, .int .i64 x.a.n, .string x.a.name, .slice aa na ca, .int .i64 x.b.kind, .int .i64 x.b.n, .string x.b.name, .slice ab nb cb, .slice ad nd cd, .slice ae ne ce, .slice ac nc cc] :: .agg #[.bool f0, .bool f1, .bool f2, .bool f3, .bool f4, .bool f5, .bool f6] :: .bool kn :: .pointer (some ⟨B, 0, none⟩) :: .pointer (some ⟨B + 1, 0, none⟩) :: undef :: .int .i64 0 :: .bool q :: u8 :: u9 :: u10 :: u11 :: u12 :: u13 :: u14 :: u15 :: u16 :: u17 :: u18 :: u19 :: u20 :: u21 :: u22 :: u23 :: u24 :: u25 :: u26 :: u27 :: u28 :: u29 :: u30 :: u31 :: u32 :: u33 :: u34 :: u35 :: u36 :: u37 :: u38 :: u39 :: u40 :: u41 :: u42 :: u43 :: u44 :: u45 :: u46 :: u47 :: u48 :: u49 :: u50 :: u51 :: u52 :: u53 :: u54 :: u55 :: u56 :: u57 :: u58 :: u59 :: u60 :: u61 :: u62 :: u63 :: u64 :: u65 :: u66 :: u67 :: u68 :: u69 :: u70 :: u71 :: u72 :: u73 :: u74 :: u75 :: u76 :: u77 :: u78 :: u79 :: u80 :: u81 :: u82 :: u83 :: .bool q :: undef :: undef :: undef :: undef :: undef :: undef :: undef :: undef :: undef :: undef :: undef :: undef :: undef :: undef :: undef :: undef :: undef :: undef :: undef :: undef :: undef :: undef :: undef :: undef :: undef :: undef :: undef :: undef :: []) w) → C ts w) ?_ ?_
              · intro l2 hl2
                simp only [List.take_succ_cons, List.take_zero, List.cons_append, List.nil_append]
                obtain ⟨i0, i1, i2, i3, i4, i5, i6, i7, i8, i9, i10, i11, i12, i13⟩ := G6.out.2.2.1
                simp only [Nat.zero_add] at i13
                obtain ⟨g0, g1, g2, g3, g4, g5, g6⟩ := G6.out.2.2.2
                clear i0 i1 i2 i3 i4 i5 i6 i7 i8 i9 i10 i11 i12 g0 g1 g2 g3 g4 g5 HW1 HW2 Q1 Q2 Q3 Q4 Q5 Q6
                cases q6
                rotate_left 1
                · iterate 4 refine WP.skip 66 74 false rfl rfl rfl rfl rfl rfl ?_
                  iterate 4 refine WP.skip 70 78 true rfl rfl rfl rfl rfl rfl ?_
                  refine WP.skip 66 74 false rfl rfl rfl rfl rfl rfl ?_
                  constructor
                  go_wp2_with fail
                  exact hl2 _ _ fun C hC => hC _ _ _ _ _ _ _ _ _ _ _ _ _ _ _ _ _ _ _ _ _ _ _ _ _ _ _ _ _ _ _ _ _ _ _ _ _ _ _ _ _ _ _ _ _ _ _ _ _ _ _ _ _ _ _ _ _ _ _ _ _ _ _ _ _ _ _ _ _ _ _ _ _ _ _ _ _ _ (by rfl) G6.out
                · cases f6
                  rotate_left 1
                  · refine WP.cut 4 (fun ts w => ts = (.agg #[.int .i64 x.kind, .string x.name, .int .i64 x.n, .int .i64 x.a.kind, .int .i64 x.a.n, .string x.a.name, .slice aa na ca, .int .i64 x.b.kind, .int .i64 x.b.n, .string x.b.name, .slice ab nb cb, .slice ad nd cd, .slice ae ne ce, .slice ac nc cc] :: .agg #[.bool f0, .bool f1, .bool f2, .bool f3, .bool f4, .bool f5, .bool true] :: .bool kn :: .pointer (some ⟨B, 0, none⟩) :: .pointer (some ⟨B + 1, 0, none⟩) :: undef :: .int .i64 0 :: undef :: u8 :: u9 :: u10 :: u11 :: u12 :: u13 :: u14 :: u15 :: u16 :: u17 :: u18 :: u19 :: u20 :: u21 :: u22 :: u23 :: u24 :: u25 :: u26 :: u27 :: u28 :: u29 :: u30 :: u31 :: u32 :: u33 :: u34 :: u35 :: u36 :: u37 :: u38 :: u39 :: u40 :: u41 :: u42 :: u43 :: u44 :: u45 :: u46 :: u47 :: u48 :: u49 :: u50 :: u51 :: u52 :: u53 :: u54 :: u55 :: u56 :: u57 :: u58 :: u59 :: u60 :: u61 :: u62 :: u63 :: u64 :: u65 :: u66 :: u67 :: u68 :: u69 :: u70 :: u71 :: u72 :: u73 :: .bool false :: .pointer (some ⟨B + 1, 6, none⟩) :: .bool true :: .bool false :: .bool false :: undef :: undef :: undef :: undef :: undef :: undef :: undef :: undef :: undef :: undef :: undef :: undef :: undef :: undef :: undef :: undef :: undef :: undef :: undef :: undef :: undef :: undef :: undef :: undef :: undef :: undef :: undef :: undef :: undef :: undef :: undef :: undef :: undef :: undef :: []) ∧ w = v6) ?_ ?_
                    · intro l3 hl3
                      simp only [List.take_succ_cons, List.take_zero, List.cons_append, List.nil_append]
                      constructor
                      go_wp2_with fail
                      exact hl3 _ _ ⟨rfl, rfl⟩
                    · rintro _ _ ⟨rfl, rfl⟩
                      simp only [List.drop_succ_cons, List.drop_zero]
                      iterate 4 refine WP.skip 70 78 true rfl rfl rfl rfl rfl rfl ?_
                      constructor
                      go_wp2_with fail
                      exact hl2 _ _ fun C hC => hC _ _ _ _ _ _ _ _ _ _ _ _ _ _ _ _ _ _ _ _ _ _ _ _ _ _ _ _ _ _ _ _ _ _ _ _ _ _ _ _ _ _ _ _ _ _ _ _ _ _ _ _ _ _ _ _ _ _ _ _ _ _ _ _ _ _ _ _ _ _ _ _ _ _ _ _ _ _ (by rfl) G6.out
                  · constructor
                    go_wp2_with fail
                    all_goals exact hl2 _ _ fun C hC => hC _ _ _ _ _ _ _ _ _ _ _ _ _ _ _ _ _ _ _ _ _ _ _ _ _ _ _ _ _ _ _ _ _ _ _ _ _ _ _ _ _ _ _ _ _ _ _ _ _ _ _ _ _ _ _ _ _ _ _ _ _ _ _ _ _ _ _ _ _ _ _ _ _ _ _ _ _ _ (by go_light; simp_all) G6.out
              · intro ts v r
                refine r (fun ts w => WP _ _ _ _ ts _ w) ?_
                intro u8 u9 u10 u11 u12 u13 u14 u15 u16 u17 u18 u19 u20 u21 u22 u23 u24 u25 u26 u27 u28 u29 u30 u31 u32 u33 u34 u35 u36 u37 u38 u39 u40 u41 u42 u43 u44 u45 u46 u47 u48 u49 u50 u51 u52 u53 u54 u55 u56 u57 u58 u59 u60 u61 u62 u63 u64 u65 u66 u67 u68 u69 u70 u71 u72 u73 u74 u75 u76 u77 u78 u79 u80 u81 u82 u83 q7 v7 hq7 h7
                clear r ts v
                have Q7 := Lib.hid hq7
                have G7 := Lib.hid h7
                clear hq7 h7
                simp only [List.drop_succ_cons, List.drop_zero]
                obtain ⟨no, hno⟩ : ∃ z, z = nameB x.name := ⟨_, rfl⟩
                obtain ⟨lo, hlo⟩ : ∃ z, z = lowestB x.cases := ⟨_, rfl⟩
                have Hown : Hid (x.ownF kn f0 f1 f2 f3 f4 f5 f6 = if q7 = true then 5 else if (f0 && !no) = true then 8 else if (decide (x.n < 0) || lo) = true then 1 else if x.kind = 10 ∧ x.a.kind ≠ 4 then 5 else 0) := by
                  show _ = _
                  unfold St.ownF
                  rw [Q7.out, Q6.out, Q5.out, Q4.out, Q3.out, Q2.out, Q1.out, ← Hl.out.2.2.1, ← Hl.out.2.2.2.1, ← Hl.out.2.2.2.2, ← hno, ← hlo]
                have Hno := Lib.hid hno
                have Hlo := Lib.hid hlo
                obtain ⟨i0, i1, i2, i3, i4, i5, i6, i7, i8, i9, i10, i11, i12, i13⟩ := G7.out.2.2.1
                simp only [Nat.zero_add] at i0 i1 i2 i3 i13
                obtain ⟨g0, g1, g2, g3, g4, g5, g6⟩ := G7.out.2.2.2
                clear Q1 Q2 Q3 Q4 Q5 Q6 Q7 G1 G2 G3 G4 G5 G6 H0 hno hlo i4 i5 i6 i7 i8 i9 i10 i11 i12 g1 g2 g3 g4 g5 g6 HW1 HW2
                cases q7
                rotate_left 1
                · constructor
                  go_wp2_with fail
                  go_ret
                  exact ⟨by rw [Hown.out]; rfl, G7.out.1⟩
                · have Hcs2 : Hid (RowOf v7 (.slice ac nc cc) x.cases.length 2 (fun b o k => ∀ y, x.cases[k]? = some y → CsAt v7 b o y (vk k))) := Hcs.out.1.imp (Below.size G7.out.1) fun b o i hbl _ hp y hy => (hp y hy).later G7.out.1 hbl
                  cases f0
                  all_goals
                    constructor
                    go_wp2_with fail
                    all_goals first
                      | go_ret
                        exact ⟨by rw [Hown.out]; simp_all <;> (intros; omega), G7.out.1⟩
                      | refine (contains_any x.cases (.slice ac nc cc) vk v7 Hcs2.out Hcs.out.2).mono ?_
                        rintro e w8 ⟨rfl, hb8⟩
                        rw [← Hlo.out]
                        have H8 := ownStep G7 hb8
                        clear hb8 i0 i1 i2 i3 i13 g0
                        obtain ⟨i0, i1, i2, i3, i4, i5, i6, i7, i8, i9, i10, i11, i12, i13⟩ := H8.out.2.2.1
                        simp only [Nat.zero_add] at i0 i1 i2 i3
                        clear i4 i5 i6 i7 i8 i9 i10 i11 i12 i13
                        cases lo
                        all_goals
                          go_wp2_with fail
                          all_goals
                            go_ret
                            exact ⟨by rw [Hown.out]; simp_all <;> (intros; omega), H8.out.1⟩
                      | refine (name_any x.name v7).mono ?_
                        rintro e w8 ⟨rfl, hw8⟩
                        rw [← hw8, ← Hno.out]
                        clear hw8 Hno
                        cases no
                        all_goals
                          go_wp2_with fail
                          all_goals first
                            | go_ret
                              exact ⟨by rw [Hown.out]; simp_all <;> (intros; omega), G7.out.1⟩
                            | refine (contains_any x.cases (.slice ac nc cc) vk v7 Hcs2.out Hcs.out.2).mono ?_
                              rintro e w9 ⟨rfl, hb8⟩
                              rw [← Hlo.out]
                              have H8 := ownStep G7 hb8
                              clear hb8 i0 i1 i2 i3 i13 g0
                              obtain ⟨i0, i1, i2, i3, i4, i5, i6, i7, i8, i9, i10, i11, i12, i13⟩ := H8.out.2.2.1
                              simp only [Nat.zero_add] at i0 i1 i2 i3
                              clear i4 i5 i6 i7 i8 i9 i10 i11 i12 i13
                              cases lo
                              all_goals
                                go_wp2_with fail
                                all_goals
                                  go_ret
                                  exact ⟨by rw [Hown.out]; simp_all <;> (intros; omega), H8.out.1⟩
end Go.Proofs.YtgobcldecokppaaDoor
