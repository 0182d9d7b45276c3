/- stmtsOf: the walk (UNDER WAY). -/
import Derived.Test.YtgcplcffejbniaaTrSts
import Derived.Deep.RegionHeld3
/- Lists of expressions in memory of their own, with room behind them. -/
namespace Go.Proofs.Ytgcplcffejbniaa
open Go.RowKit

theorem Try.infoExpr : (Try.prog.info? 43).map (fun i => (i.zero, i.size, i.bytes)) = some (some (.agg #[.int .i64 0, .int .i64 0, .string ⟨#[]⟩, .slice none 0 0]), 4, 56) := by kernel_rfl
def exVs (x : Ex) (v : Value) : List Value := [.int .i64 x.kind, .int .i64 x.n, .string x.name, v]
def exCells : List Ex → (Nat → Value) → List Value
  | [], _ => []
  | x :: l, vs => exVs x (vs 0) ++ exCells l fun i => vs (i + 1)
theorem exCells_len (l : List Ex) (vs : Nat → Value) : (exCells l vs).length = l.length * 4 := by
  induction l generalizing vs with
  | nil => rfl
  | cons x l ih =>
    simp only [exCells, List.length_append, ih, List.length_cons]
    show 4 + l.length * 4 = _
    omega
theorem exCells_snoc (l : List Ex) (x : Ex) (vs : Nat → Value) : exCells (l ++ [x]) vs = exCells l vs ++ exVs x (vs l.length) := by
  induction l generalizing vs with
  | nil => simp [exCells]
  | cons y l ih => simp only [List.cons_append, exCells, ih, List.append_assoc, List.length_cons]
theorem exCells_get {l : List Ex} {vs : Nat → Value} {i : Nat} {x : Ex} (h : l[i]? = some x) (j : Nat) (hj : j < 4) : (exCells l vs)[i * 4 + j]? = (exVs x (vs i))[j]? := by
  induction l generalizing vs i with
  | nil => simp at h
  | cons y l ih =>
    cases i with
    | zero =>
      simp at h; subst h
      rw [Nat.zero_mul, Nat.zero_add]
      simp only [exCells]
      rw [List.getElem?_append_left (by show j < 4; exact hj)]
    | succ i =>
      simp only [exCells]
      rw [List.getElem?_append_right (by show 4 ≤ _; omega)]
      have e : (i + 1) * 4 + j - (exVs y (vs 0)).length = i * 4 + j := by show (i + 1) * 4 + j - 4 = _; omega
      rw [e]
      exact ih (vs := fun k => vs (k + 1)) (by simpa using h)
theorem exCells_ext {l : List Ex} {vs ws : Nat → Value} (h : ∀ i, i < l.length → vs i = ws i) : exCells l vs = exCells l ws := by
  induction l generalizing vs ws with
  | nil => rfl
  | cons x l ih =>
    simp only [exCells]
    rw [h 0 (by simp), ih fun i hi => h (i + 1) (by simp; omega)]
def spareEx : List Value := [.int .i64 (-77), .int .i64 0, .string ⟨#[]⟩, .slice none 0 0]
/-- v reads as l; all its blocks lie from lo on and ahead of hi, no two lists share one. -/
inductive OwnExs (w : World) : Nat → Nat → List Ex → Value → Prop
  | mk (lo hi : Nat) (l : List Ex) (g cap : Nat) (vs : Nat → Value) (los his : Nat → Nat) (hg : lo ≤ g ∧ g < hi) (hs : hi ≤ w.heap.size)
      (own : w.ownsRow lo 43 4 (.slice (some ⟨g, 0, none⟩) (l.length + 1) cap) (l.length + 1) (exCells l vs ++ spareEx))
      (rng : ∀ i, i < l.length → lo ≤ los i ∧ los i ≤ his i ∧ his i ≤ hi ∧ ¬ (los i ≤ g ∧ g < his i))
      (apart : ∀ i j, i < j → j < l.length → his i ≤ los j)
      (each : ∀ (i : Nat) x, l[i]? = some x → OwnExs w (los i) (his i) x.args (vs i)) : OwnExs w lo hi l (.slice (some ⟨g, 0, none⟩) l.length cap)
theorem ownsRow_at {w w' : World} {B : Nat} {e : TypeId} {size g n cap : Nat} {xs : List Value} (h : w.ownsRow B e size (.slice (some ⟨g, 0, none⟩) n cap) n xs) (hb : w'.heap[g]? = w.heap[g]?) : w'.ownsRow B e size (.slice (some ⟨g, 0, none⟩) n cap) n xs := by
  refine ⟨h.1, ?_⟩
  rcases h.2 with ⟨h1, _⟩ | ⟨g', vcap, cur, hv, hg, hgh, r⟩
  · cases h1
  · cases hv
    exact .inr ⟨g, cap, cur, rfl, hg, hb.trans hgh, r⟩
/-- What changes elsewhere does not matter. -/
theorem OwnExs.apart {w w' : World} {lo hi : Nat} {l : List Ex} {v : Value} (h : OwnExs w lo hi l v) (hs : hi ≤ w'.heap.size) (hb : ∀ k, lo ≤ k → k < hi → w'.heap[k]? = w.heap[k]?) : OwnExs w' lo hi l v := by
  induction h with
  | mk lo hi l g cap vs los his hg _ own rng apart each ih =>
    refine .mk lo hi l g cap vs los his hg hs (ownsRow_at own (hb g hg.1 hg.2)) rng apart fun i x hx => ?_
    have hi := (List.getElem?_eq_some_iff.1 hx).1
    obtain ⟨r1, r2, r3, _⟩ := rng i hi
    exact ih i x hx (by omega) fun k h1 h2 => hb k (by omega) (by omega)
theorem OwnExs.reads {w : World} {lo hi : Nat} {l : List Ex} {v : Value} (h : OwnExs w lo hi l v) : ExsIn w l v := by
  induction h with
  | mk lo hi l g cap vs los his hg hs own rng apart each ih =>
    refine .mk _ _ vs ?_ ih
    rcases own.2 with ⟨h1, _⟩ | ⟨g', vcap, cur, hv, hg', hgh, hn, hm, _, _⟩
    · cases h1
    · cases hv
      refine ⟨some ⟨g, 0, none⟩, cap, rfl, by omega, hm, by simp, fun _ => ⟨g, 0, rfl, by omega, fun i hi x hx => ?_⟩⟩
      have k : ∀ (j : Nat) u, j < 4 → (exVs x (vs i))[j]? = some u → w.cell? ⟨g, 0 + i * 4 + j, none⟩ = some u := fun j u hj hu => by
        have h := World.ownsRow.cells own (g := g) rfl (i * 4 + j) u (by rw [List.getElem?_append_left (by rw [exCells_len]; omega), exCells_get hx j hj]; exact hu)
        have ha : (⟨g, 0, none⟩ : Addr).add (i * 4 + j) = ⟨g, 0 + i * 4 + j, none⟩ := by unfold Addr.add; split <;> simp_all
        rw [← ha]; exact h
      exact ⟨k 0 _ (by decide) rfl, k 1 _ (by decide) rfl, k 2 _ (by decide) rfl, k 3 _ (by decide) rfl⟩
end Go.Proofs.Ytgcplcffejbniaa

/- exprsOf: expressions in memory of their own. -/
namespace Go.Proofs.Ytgcplcffejbniaa
open Go.RowKit

/-- The first i expressions are copied. -/
structure ExMade (w : World) (lo : Nat) (l : List Ex) (i g cap : Nat) (vs : Nat → Value) (los his : Nat → Nat) : Prop where
  hg : lo ≤ g ∧ g < w.heap.size
  own : w.ownsRow lo 43 4 (.slice (some ⟨g, 0, none⟩) i cap) i (exCells (l.take i) vs)
  rng : ∀ j, j < i → lo ≤ los j ∧ los j ≤ his j ∧ his j ≤ w.heap.size ∧ ¬ (los j ≤ g ∧ g < his j)
  apart : ∀ j k, j < k → k < i → his j ≤ los k
  each : ∀ (j : Nat) x, j < i → l[j]? = some x → OwnExs w (los j) (his j) x.args (vs j)
/-- 'out = append(out, x)', out a list of expressions of the call's own. -/
theorem append_ex {ops : Array Oper} {rest : List Oper} {o : Oper} {a : Act} {Q : Exit → Act → World → Prop} {w : World} (hgd : o.guard = none) (s x : Operand)
    (ho : o.op = .call { callee := .builtin .append, args := #[s, x], argTypes := #[41, 41] })
    (B : Nat) (v : Value) (n : Nat) (xs : List Value) (hs : a.eval s = v) (hown : w.ownsRow B 43 4 v n xs) (k m : Int) (nm : ByteArray) (av : Option Addr) (nv cv : Nat) (hx : a.eval x = .slice (some ⟨w.heap.size, 0, none⟩) 1 1)
    (hl : n ≤ 5000000) (hB : B ≤ w.heap.size)
    (h : ∀ v' w', w'.ownsRow B 43 4 v' (n + 1) (xs ++ [.int .i64 k, .int .i64 m, .string nm, .slice av nv cv]) → (w.alloc (.cells #[.int .i64 k, .int .i64 m, .string nm, .slice av nv cv] 43)).grownBy w' v.ownBlock → Fresh (w.alloc (.cells #[.int .i64 k, .int .i64 m, .string nm, .slice av nv cv] 43)) v v' → wpList Try.prog ops Q rest (a.put o.dst v') w') :
    wpList Try.prog ops Q (o :: rest) a (w.alloc (.cells #[.int .i64 k, .int .i64 m, .string nm, .slice av nv cv] 43)) := by
  refine append_gen hgd s x 41 ho Try.underlying41 Try.infoExpr rfl (by decide) B v n xs hs (World.ownsRow.alloc hown _) _ 1 [.int .i64 k, .int .i64 m, .string nm, .slice av nv cv] hx (sliceIn_new w [.int .i64 k, .int .i64 m, .string nm, .slice av nv cv] 1 4 43 rfl (by decide)) ?_ ?_ ?_ ?_ ?_
  · intro u hu; simp at hu; rcases hu with rfl | rfl | rfl | rfl <;> rfl
  · unfold maxLen; omega
  · omega
  · simp; omega
  · intro v' w' h1 h2 h3 _
    exact h v' w' h1 h2 h3
theorem row_one {w : World} {B : Nat} {e : TypeId} {size n : Nat} {v : Value} {xs : List Value} (h : w.ownsRow B e size v n xs) (hn : 0 < n) : ∃ g cap, v = .slice (some ⟨g, 0, none⟩) n cap ∧ B ≤ g ∧ g < w.heap.size ∧ n ≤ cap := by
  rcases h.2 with ⟨_, h2⟩ | ⟨g, cap, cur, hv, hg, hgh, hnc, _⟩
  · omega
  · exact ⟨g, cap, hv, hg, (Array.getElem?_eq_some_iff.1 hgh).1, hnc⟩
theorem ExMade.next {wr w7 : World} {lo : Nat} {l : List Ex} {i g cap : Nat} {vs : Nat → Value} {los his : Nat → Nat} (h : ExMade wr lo l i g cap vs los his) {y : Ex} (hy : l[i]? = some y)
    (hb : ∀ k, lo ≤ k → k < wr.heap.size → k ≠ g → w7.heap[k]? = wr.heap[k]?) {lo5 hi5 : Nat} {v5 : Value} (hn : OwnExs w7 lo5 hi5 y.args v5) (h1 : wr.heap.size ≤ lo5) (h2 : lo5 ≤ hi5) (h3 : hi5 ≤ w7.heap.size)
    {g7 cap7 : Nat} (hrow : w7.ownsRow lo 43 4 (.slice (some ⟨g7, 0, none⟩) (i + 1) cap7) (i + 1) (exCells (l.take i) vs ++ exVs y v5)) (hg : lo ≤ g7 ∧ g7 < w7.heap.size) (hg7 : g7 = g ∨ hi5 ≤ g7) :
    ExMade w7 lo l (i + 1) g7 cap7 (fun j => if j = i then v5 else vs j) (fun j => if j = i then lo5 else los j) (fun j => if j = i then hi5 else his j) := by
  have hlen : (l.take i).length = i := by rw [List.length_take]; have := (List.getElem?_eq_some_iff.1 hy).1; omega
  have hgr := h.hg
  refine ⟨hg, ?_, ?_, ?_, ?_⟩
  · rw [take_next hy, exCells_snoc, hlen]
    simp only [if_true]
    rw [exCells_ext (ws := vs) fun k hk => if_neg (by omega)]
    exact hrow
  · intro j hj
    by_cases e : j = i
    · subst e; simp only [if_true]; refine ⟨by omega, h2, h3, ?_⟩; omega
    · simp only [if_neg e]
      obtain ⟨r1, r2, r3, r4⟩ := h.rng j (by omega)
      refine ⟨r1, r2, by omega, ?_⟩
      rcases hg7 with rfl | hg7
      · exact r4
      · omega
  · intro j k hjk hk
    by_cases e : k = i
    · subst e; simp only [if_true, if_neg (Nat.ne_of_lt hjk)]
      have := (h.rng j hjk).2.2.1; omega
    · simp only [if_neg e, if_neg (show ¬ j = i by omega)]; exact h.apart j k hjk (by omega)
  · intro j x hj hx
    by_cases e : j = i
    · subst e; rw [hy] at hx; cases hx; simp only [if_true]; exact hn
    · simp only [if_neg e]
      obtain ⟨r1, r2, r3, r4⟩ := h.rng j (by omega)
      exact (h.each j x (by omega) hx).apart (by omega) fun k k1 k2 => hb k (by omega) (by omega) fun e => r4 (by omega)
def RCopyE (w0 : World) (l : List Ex) (v : Value) : Prop := ∀ (W : World), Below w0.heap.size w0 W → Ex.totals l ≤ 4000000 →
  Calls Try.prog 67 #[v] W (fun E W' => ∃ v', E = .returned v' ∧ Below W.heap.size W W' ∧ OwnExs W' W.heap.size W'.heap.size l v')
set_option maxRecDepth 100000 in
set_option maxHeartbeats 4000000 in
theorem copyE_any (l : List Ex) (v : Value) (w0 : World) (h : ExsIn w0 l v) : RCopyE w0 l v := by
  induction h with
  | mk l v vs h each ih =>
  intro W hB hT
  obtain ⟨a, cap, rfl, hncap, hcap⟩ := h.form
  obtain ⟨n, hn⟩ : ∃ n, n = l.length := ⟨_, rfl⟩
  have Hn := Lib.hid hn
  have Hrow : Hid (RowOf w0 (.slice a n cap) l.length 4 (fun b o i => ∀ x, l[i]? = some x → ExAt w0 b o x (vs i))) := by rw [hn]; exact h
  have Hih := Lib.hid (And.intro ih each)
  have HT := Lib.hid hT
  have HB := Lib.hid hB
  rw [← hn]
  have hn2 : n ≤ 4000000 := by
    have : ∀ l : List Ex, l.length ≤ Ex.totals l := fun l => by
      induction l with
      | nil => simp
      | cons x l ih => have := x.total_eq; simp only [List.length_cons, Ex.totals]; omega
    have := this l
    omega
  clear h each ih hn hT hB hncap hcap
  obtain ⟨i0, hi0, hz0, hz1, hz2⟩ := info_parts Try.infoExpr
  obtain ⟨W1, hmk, hown1, hgr1⟩ := run_make_own W W.heap.size 41 43 i0 _ 4 Try.underlying41 hi0 hz0 hz1 .i64 .i64 (n + 1) (by rw [hz2]; omega) (by unfold maxLen; omega) (Nat.le_refl _)
  rw [show (((n + 1 : Nat)) : Int) = (n : Int) + 1 by omega] at hmk
  have hb1 : Below W.heap.size W W1 := (Below.refl _ _).grown hgr1 (Nat.le_refl _) (by intro k e; cases e)
  have hg1 : W.heap.size < W1.heap.size := (World.ownsRow.lt hown1 W.heap.size rfl).2
  obtain ⟨G, hG⟩ : ∃ g, g = W.heap.size := ⟨_, rfl⟩
  have hGW : G ≤ W.heap.size ∧ W.heap.size ≤ G := by omega
  have H1 := Lib.hid (And.intro hown1 (And.intro hb1 hg1))
  have Hmk := Lib.hid (And.intro hmk hG)
  have hn62 : n ≤ 9223372036854775807 := by omega
  clear hi0 hz0 hz1 hz2 hown1 hgr1 hb1
  go_enter Try.func67, Try.ntmps67
  go_upto_region 2 with (fail)
  clear hmk
  rw [← Hmk.out.2]
  go_wp2_with fail
  have hm0 : ExMade W1 G l 0 G (n + 1) (fun _ => .bool false) (fun _ => 0) (fun _ => 0) := ⟨⟨Nat.le_refl _, by omega⟩, by rw [hG]; simpa [exCells] using H1.out.1, fun j h => absurd h (Nat.not_lt_zero _), fun j k h1 h2 => absurd h2 (Nat.not_lt_zero _), fun j x h => absurd h (Nat.not_lt_zero _)⟩
  have Hm0 := Lib.hid hm0
  clear hm0 hG
  go_loopg [3, 4] n (fun gk ov iv wx => ∃ (i g cap : Nat) (vs : Nat → Value) (los his : Nat → Nat), gk = n - i ∧ ov = .slice (some ⟨g, 0, none⟩) i cap ∧ iv = .int .i64 (i : Int) ∧ i ≤ n ∧ ExMade wx G l i g cap vs los his ∧ Below G W wx)
  case atStart => exact ⟨0, G, n + 1, _, _, _, rfl, rfl, rfl, Nat.zero_le _, Hm0.out, H1.out.2.1.mono hGW.1⟩
  case round =>
    obtain ⟨i, g, cp, vs', los, his, hgk, rfl, rfl, hi, hm, hbw⟩ := hrel
    have Hg := Lib.hid hgk
    have Hm := Lib.hid (And.intro hm hbw)
    have HBr : Hid (Below w0.heap.size w0 wr) := HB.out.trans (hbw.mono (by have := HB.out.size; omega))
    have hgr := hm.hg
    clear hgk hm hbw
    by_cases hin : i < n
    · obtain ⟨y, hy⟩ : ∃ y, l[i]? = some y := ⟨_, List.getElem?_eq_getElem (by rw [← Hn.out]; exact hin)⟩
      obtain ⟨b, off, rfl, hb, hP⟩ := Hrow.out.at (i := i) (by rw [← Hn.out]; exact hin)
      have hey := (hP y hy).later HBr.out hb
      have ihy := Hih.out.1 i y hy
      obtain ⟨a', cap', hvs, -⟩ := (Hih.out.2 i y hy).form
      obtain ⟨m', hm'⟩ : ∃ m', m' = y.args.length := ⟨_, rfl⟩
      rw [hvs, ← hm'] at hey ihy
      have Hm' := Lib.hid hm'
      obtain ⟨W4, hW4⟩ : ∃ W4, W4 = wr.alloc (.cells #[.int .i64 y.kind, .int .i64 y.n, .string y.name, .slice a' m' cap'] 43) := ⟨_, rfl⟩
      obtain ⟨D, hD⟩ : ∃ D, D = wr.heap.size := ⟨_, rfl⟩
      have hb4 : Below wr.heap.size wr W4 := by rw [hW4]; exact (Below.refl _ _).alloc (Nat.le_refl _) _
      have he4 : ExAt W4 D 0 y (.slice a' m' cap') := by rw [hW4, hD]; constructor <;> exact World.cell?_alloc_at _ _ _ _ rfl
      have hz4 : W4.heap.size = D + 1 := by rw [hW4, hD]; simp
      have hf4 : W4.frozen? ⟨D, 3, none⟩ = false := by rw [hW4, hD]; exact World.frozen?_alloc_at _ _ _ _ rfl
      have HW4 := Lib.hid (And.intro hW4 hD)
      obtain ⟨i0, i1, i2, i3⟩ := hey
      have Hy := Lib.hid hy
      clear hP hy hvs hm' hW4 hD
      go_upto_region 6 with (fail)
      rw [← HW4.out.1, ← HW4.out.2]
      have He4 := Lib.hid he4
      obtain ⟨-, -, -, d3⟩ := he4
      simp only [Nat.zero_add] at d3
      have hD4 : D < W4.heap.size := by rw [hz4]; exact Nat.lt_succ_self _
      have hT4 : Ex.totals y.args ≤ 4000000 := by
        have h1 := Ex.totals_take Hy.out
        have h2 := Ex.totals_le (l := l) (i + 1)
        have h3 := y.total_eq
        have h4 := HT.out
        omega
      have hB4 : Below w0.heap.size w0 W4 := HBr.out.trans (hb4.mono HBr.out.size)
      go_wp2_with fail
      clear d3
      refine (ihy W4 hB4 hT4).mono ?_
      rintro E w5 ⟨v5, rfl, hb5, ho5⟩
      have he5 := He4.out.later hb5 hD4
      have hD5 : D < w5.heap.size := Nat.lt_of_lt_of_le hD4 hb5.size
      obtain ⟨g5, c5, rfl⟩ : ∃ g5 c5, v5 = .slice (some ⟨g5, 0, none⟩) y.args.length c5 := by cases ho5; exact ⟨_, _, rfl⟩
      rw [← Hm'.out] at ho5 ⊢
      have hf5 : w5.frozen? ⟨D, 3, none⟩ = false := (hb5.frozen (p := ⟨D, 3, none⟩) hD4).trans hf4
      have H5 := Lib.hid (And.intro hb5 ho5)
      obtain ⟨d0, d1, d2, d3⟩ := he5
      simp only [Nat.zero_add] at d0 d1 d2 d3
      clear ihy hB4 hT4 hb5 ho5 i0 i1 i2 i3
      go_upto_region 7 with (fail)
      obtain ⟨W6, hW6⟩ : ∃ w : World, w = w5.setCell ⟨D, 3, none⟩ (.slice (some ⟨g5, 0, none⟩) m' c5) := ⟨_, rfl⟩
      rw [← hW6]
      have hb6 : Below wr.heap.size wr W6 := by rw [hW6]; exact (hb4.trans (H5.out.1.mono hb4.size)).setCell (by rw [← HW4.out.2]; exact Nat.le_refl _) _
      have hown6 : W6.ownsRow G 43 4 (.slice (some ⟨g, 0, none⟩) i cp) i (exCells (l.take i) vs') := ownsRow_at Hm.out.1.own (hb6.block g hgr.2)
      have he6 : ExAt W6 D 0 y (.slice (some ⟨g5, 0, none⟩) m' c5) := by
        rw [hW6]
        constructor
        · rw [World.cell?_setCell_other _ _ _ _ (by simp)]; simpa using d0
        · rw [World.cell?_setCell_other _ _ _ _ (by simp)]; simpa using d1
        · rw [World.cell?_setCell_other _ _ _ _ (by simp)]; simpa using d2
        · exact World.cell?_setCell_same' _ _ _ (by simp [d3])
      have hG6 : G ≤ W6.heap.size := by have := hb6.size; omega
      have H6 := Lib.hid (And.intro hW6 (And.intro hb6 hown6))
      clear hW6 hb6 d0 d1 d2 d3
      obtain ⟨d0, d1, d2, d3⟩ := he6
      simp only [Nat.zero_add] at d0 d1 d2 d3
      have hi5 : i ≤ 5000000 := by omega
      go_upto_region 4 with (at_builtin; refine append_ex rfl _ _ rfl G (.slice (some ⟨g, 0, none⟩) i cp) i (exCells (l.take i) vs') rfl hown6 y.kind y.n y.name (some ⟨g5, 0, none⟩) m' c5 rfl hi5 hG6 ?_; intro v7 w7 hown7 hgr7 hfr7)
      obtain ⟨g7, c7, rfl, hg7⟩ := row_one hown7 (Nat.succ_pos i)
      have hr7 : ExMade w7 G l (i + 1) g7 c7 (fun j => if j = i then .slice (some ⟨g5, 0, none⟩) m' c5 else vs' j) (fun j => if j = i then W4.heap.size else los j) (fun j => if j = i then w5.heap.size else his j) ∧ Below G W w7 := by
        have s4 : wr.heap.size < W4.heap.size := by rw [hz4, ← HW4.out.2]; exact Nat.lt_succ_self _
        have s5 := H5.out.1.size
        have s6 : W6.heap.size = w5.heap.size := by rw [H6.out.1]; exact size_set _ _ _
        have s7 := hgr7.size
        rw [World.size_alloc] at s7
        have hblk : ∀ k, k < W6.heap.size → k ≠ g → w7.heap[k]? = W6.heap[k]? := fun k h1 h2 =>
          (hgr7.block k (by rw [World.size_alloc]; omega) (fun e => h2 (by simpa [Value.ownBlock] using e))).trans (((Below.refl W6.heap.size W6).alloc (Nat.le_refl _) _).block k h1)
        have hgg : g7 = g ∨ w5.heap.size ≤ g7 := by
          by_cases e : g7 = g
          · exact .inl e
          · refine .inr (Nat.le_of_not_lt fun h => hfr7 g7 (by rw [World.size_alloc]; omega) (fun h2 => e (by simpa [Value.ownBlock] using h2.symm)) rfl)
        refine ⟨Hm.out.1.next Hy.out (fun k h1 h2 h3 => (hblk k (by omega) h3).trans (H6.out.2.1.block k h2)) (lo5 := W4.heap.size) (hi5 := w5.heap.size) (H5.out.2.apart (by omega) fun k h1 h2 => (hblk k (by omega) (by omega)).trans ?_) (by omega) s5 (by omega) hown7 ⟨hg7.1, hg7.2.1⟩ hgg, ?_⟩
        · rw [H6.out.1]
          exact Below.heap_setCell w5 ⟨D, 3, none⟩ _ k (by show k ≠ D; have := HW4.out.2; omega)
        · exact ((Hm.out.2.trans (H6.out.2.1.mono (by omega))).alloc hG6 _).grown hgr7 (by rw [World.size_alloc]; omega) fun k e => by
            simp [Value.ownBlock] at e; omega
      have H7 := Lib.hid hr7
      clear hr7 hown7 hgr7 hfr7 hown6 d0 d1 d2 d3
      go_wp2_with fail
      go_roundg (n - (i + 1))
      case measure => have := Hg.out; omega
      case rel => exact ⟨i + 1, g7, c7, _, _, _, rfl, rfl, by go_num, hin, H7.out⟩
    · obtain rfl : n = i := by omega
      have hown := Hm.out.1.own
      have hi5 : n ≤ 5000000 := by omega
      have hG6 : G ≤ wr.heap.size := by omega
      go_upto_region 9 with (at_builtin; refine append_ex rfl _ _ rfl G (.slice (some ⟨g, 0, none⟩) n cp) n (exCells (l.take n) vs') rfl hown (-77) 0 ⟨#[]⟩ none 0 0 rfl hi5 hG6 ?_; intro v7 w7 hown7 hgr7 hfr7)
      obtain ⟨g7, c7, rfl, hg7⟩ := row_one hown7 (Nat.succ_pos n)
      have Hres : Hid (Below W.heap.size W w7 ∧ OwnExs w7 W.heap.size w7.heap.size l (.slice (some ⟨g7, 0, none⟩) n c7)) := by
        show _ ∧ _
        obtain rfl : G = W.heap.size := by omega
        have s7 := hgr7.size
        rw [World.size_alloc] at s7
        have hblk : ∀ k, k < wr.heap.size → k ≠ g → w7.heap[k]? = wr.heap[k]? := fun k h1 h2 =>
          (hgr7.block k (by rw [World.size_alloc]; omega) (fun e => h2 (by simpa [Value.ownBlock] using e))).trans (((Below.refl wr.heap.size wr).alloc (Nat.le_refl _) _).block k h1)
        have hgg : g7 = g ∨ wr.heap.size ≤ g7 := by
          by_cases e : g7 = g
          · exact .inl e
          · refine .inr (Nat.le_of_not_lt fun h => hfr7 g7 (by rw [World.size_alloc]; omega) (fun h2 => e (by simpa [Value.ownBlock] using h2.symm)) rfl)
        refine ⟨(Hm.out.2.alloc hG6 _).grown hgr7 (by rw [World.size_alloc]; omega) fun k e => by
            simp [Value.ownBlock] at e; omega, ?_⟩
        rw [show l.take n = l by rw [Hn.out]; exact List.take_length] at hown7
        rw [Hn.out] at hown7 ⊢
        refine .mk _ _ l g7 c7 vs' los his ⟨hg7.1, hg7.2.1⟩ (Nat.le_refl _) hown7 (fun j hj => ?_) (fun j k h1 h2 => Hm.out.1.apart j k h1 (by rw [Hn.out]; exact h2)) fun j x hx => ?_
        · obtain ⟨r1, r2, r3, r4⟩ := Hm.out.1.rng j (by rw [Hn.out]; exact hj)
          refine ⟨r1, r2, by omega, ?_⟩
          rcases hgg with rfl | h
          · exact r4
          · omega
        · have hj : j < n := by rw [Hn.out]; exact (List.getElem?_eq_some_iff.1 hx).1
          obtain ⟨r1, r2, r3, r4⟩ := Hm.out.1.rng j hj
          exact (Hm.out.1.each j x hj hx).apart (by omega) fun k k1 k2 => hblk k (by omega) fun e => r4 (by omega)
      have hn7 : n ≤ c7 := by have := hg7.2.2; omega
      clear hown7 hgr7 hfr7 hown
      go_wp2_with fail
      go_ret
      exact ⟨_, rfl, Hres.out.1, Hres.out.2⟩
end Go.Proofs.Ytgcplcffejbniaa

/- Rows of cells by a function; statements in memory of their own: the plain part. -/
namespace Go.Proofs.Ytgcplcffejbniaa
open Go.RowKit

/-- The first i rows, one after the other. -/
def rowsOf (f : Nat → List Value) : Nat → List Value
  | 0 => []
  | i + 1 => rowsOf f i ++ f i
theorem rowsOf_len {f : Nat → List Value} {size : Nat} (n : Nat) (h : ∀ j, j < n → (f j).length = size) : (rowsOf f n).length = n * size := by
  induction n with
  | zero => simp [rowsOf]
  | succ n ih =>
    rw [rowsOf, List.length_append, ih fun j hj => h j (by omega), h n (by omega), Nat.succ_mul]
theorem rowsOf_ext {f g : Nat → List Value} (n : Nat) (h : ∀ j, j < n → f j = g j) : rowsOf f n = rowsOf g n := by
  induction n with
  | zero => rfl
  | succ n ih => rw [rowsOf, rowsOf, ih fun j hj => h j (by omega), h n (by omega)]
theorem rowsOf_get {f : Nat → List Value} {size : Nat} {n : Nat} (h : ∀ j, j < n → (f j).length = size) (i j : Nat) (hi : i < n) (hj : j < size) : (rowsOf f n)[i * size + j]? = (f i)[j]? := by
  induction n with
  | zero => omega
  | succ n ih =>
    have hl := rowsOf_len n fun j hj => h j (by omega)
    rw [rowsOf]
    by_cases e : i = n
    · subst e
      rw [List.getElem?_append_right (by omega)]
      congr 1; omega
    · have : (i + 1) * size ≤ n * size := Nat.mul_le_mul_right _ (by omega)
      rw [Nat.succ_mul] at this
      rw [List.getElem?_append_left (by omega)]
      exact ih (fun j hj => h j (by omega)) (by omega)
def stVs (x : St) (va vb vd ve vc : Value) : List Value :=
  [.int .i64 x.kind, .string x.name, .int .i64 x.n, .int .i64 x.a.kind, .int .i64 x.a.n, .string x.a.name, va, .int .i64 x.b.kind, .int .i64 x.b.n, .string x.b.name, vb, vd, ve, vc]
def csVs (y : Cs) (v : Value) : List Value := [.int .i64 y.n, v]
/-- A range may be taken wider. -/
theorem ownsRow_low {w : World} {B B' : Nat} {e : TypeId} {size n : Nat} {v : Value} {xs : List Value} (h : w.ownsRow B e size v n xs) (hB : B' ≤ B) : w.ownsRow B' e size v n xs := by
  refine ⟨h.1, ?_⟩
  rcases h.2 with h2 | ⟨g, vcap, cur, hv, hg, r⟩
  · exact .inl h2
  · exact .inr ⟨g, vcap, cur, hv, by omega, r⟩
theorem OwnExs.wide {w : World} {lo hi lo' hi' : Nat} {l : List Ex} {v : Value} (h : OwnExs w lo hi l v) (h1 : lo' ≤ lo) (h2 : hi ≤ hi') (h3 : hi' ≤ w.heap.size) : OwnExs w lo' hi' l v := by
  cases h with
  | mk _ _ _ g cap vs los his hg hs own rng apart each =>
    exact .mk lo' hi' l g cap vs los his ⟨by omega, by omega⟩ h3 (ownsRow_low own h1) (fun i hi => by
      obtain ⟨r1, r2, r3, r4⟩ := rng i hi
      exact ⟨by omega, r2, by omega, r4⟩) apart each
def stRow (l : List St) (va vb vd ve vc : Nat → Value) (i : Nat) : List Value := match l[i]? with
  | some x => stVs x (va i) (vb i) (vd i) (ve i) (vc i)
  | none => []
def csRow (l : List Cs) (vk : Nat → Value) (k : Nat) : List Value := match l[k]? with
  | some y => csVs y (vk k)
  | none => []
theorem stRow_at {l : List St} {i : Nat} {x : St} (h : l[i]? = some x) (va vb vd ve vc : Nat → Value) : stRow l va vb vd ve vc i = stVs x (va i) (vb i) (vd i) (ve i) (vc i) := by unfold stRow; rw [h]
theorem csRow_at {l : List Cs} {i : Nat} {x : Cs} (h : l[i]? = some x) (vk : Nat → Value) : csRow l vk i = csVs x (vk i) := by unfold csRow; rw [h]
theorem stRow_len (l : List St) (va vb vd ve vc : Nat → Value) (i : Nat) (h : i < l.length) : (stRow l va vb vd ve vc i).length = 14 := by
  rw [stRow_at (List.getElem?_eq_getElem h)]; rfl
theorem csRow_len (l : List Cs) (vk : Nat → Value) (i : Nat) (h : i < l.length) : (csRow l vk i).length = 2 := by
  rw [csRow_at (List.getElem?_eq_getElem h)]; rfl
def spareSt : List Value := [.int .i64 (-77), .string ⟨#[]⟩, .int .i64 0, .int .i64 0, .int .i64 0, .string ⟨#[]⟩, .slice none 0 0, .int .i64 0, .int .i64 0, .string ⟨#[]⟩, .slice none 0 0, .slice none 0 0, .slice none 0 0, .slice none 0 0]
def spareCs : List Value := [.int .i64 (-77), .slice none 0 0]
/-- v reads as l; all its blocks lie from lo on and ahead of hi, no two parts share one. Statement i: a in [m i 0, m i 1), b up to m i 2, body up to m i 3, els up to m i 4, the cases up to m i 5. -/
inductive OwnSts (w : World) : Nat → Nat → List St → Value → Prop
  | mk (lo hi : Nat) (l : List St) (g cap : Nat) (va vb vd ve vc : Nat → Value) (vk : Nat → Nat → Value) (m : Nat → Nat → Nat) (gc cc : Nat → Nat) (lk hk : Nat → Nat → Nat)
      (hg : lo ≤ g ∧ g < hi) (hs : hi ≤ w.heap.size)
      (own : w.ownsRow lo 48 14 (.slice (some ⟨g, 0, none⟩) (l.length + 1) cap) (l.length + 1) (rowsOf (stRow l va vb vd ve vc) l.length ++ spareSt))
      (rng : ∀ i, i < l.length → lo ≤ m i 0 ∧ m i 0 ≤ m i 1 ∧ m i 1 ≤ m i 2 ∧ m i 2 ≤ m i 3 ∧ m i 3 ≤ m i 4 ∧ m i 4 ≤ m i 5 ∧ m i 5 ≤ hi ∧ ¬ (m i 0 ≤ g ∧ g < m i 5))
      (apart : ∀ i j, i < j → j < l.length → m i 5 ≤ m j 0)
      (ea : ∀ (i : Nat) x, l[i]? = some x → OwnExs w (m i 0) (m i 1) x.a.args (va i))
      (eb : ∀ (i : Nat) x, l[i]? = some x → OwnExs w (m i 1) (m i 2) x.b.args (vb i))
      (ed : ∀ (i : Nat) x, l[i]? = some x → OwnSts w (m i 2) (m i 3) x.body (vd i))
      (ee : ∀ (i : Nat) x, l[i]? = some x → OwnSts w (m i 3) (m i 4) x.els (ve i))
      (ec : ∀ (i : Nat) x, l[i]? = some x → vc i = .slice (some ⟨gc i, 0, none⟩) x.cases.length (cc i) ∧ (m i 4 ≤ gc i ∧ gc i < m i 5) ∧
        w.ownsRow (m i 4) 86 2 (.slice (some ⟨gc i, 0, none⟩) (x.cases.length + 1) (cc i)) (x.cases.length + 1) (rowsOf (csRow x.cases (vk i)) x.cases.length ++ spareCs))
      (ck : ∀ (i : Nat) x (k : Nat), l[i]? = some x → k < x.cases.length → m i 4 ≤ lk i k ∧ lk i k ≤ hk i k ∧ hk i k ≤ m i 5 ∧ ¬ (lk i k ≤ gc i ∧ gc i < hk i k))
      (ca : ∀ (i : Nat) x (j k : Nat), l[i]? = some x → j < k → k < x.cases.length → hk i j ≤ lk i k)
      (each : ∀ (i : Nat) x (k : Nat) y, l[i]? = some x → x.cases[k]? = some y → OwnSts w (lk i k) (hk i k) y.body (vk i k)) :
      OwnSts w lo hi l (.slice (some ⟨g, 0, none⟩) l.length cap)
theorem OwnSts.apart {w w' : World} {lo hi : Nat} {l : List St} {v : Value} (h : OwnSts w lo hi l v) (hs : hi ≤ w'.heap.size) (hb : ∀ k, lo ≤ k → k < hi → w'.heap[k]? = w.heap[k]?) : OwnSts w' lo hi l v := by
  induction h with
  | mk lo hi l g cap va vb vd ve vc vk m gc cc lk hk hg _ own rng apart ea eb ed ee ec ck ca each ihd ihe ihk =>
    have R : ∀ (i : Nat) x, l[i]? = some x → _ := fun i x hx => rng i (List.getElem?_eq_some_iff.1 hx).1
    refine .mk lo hi l g cap va vb vd ve vc vk m gc cc lk hk hg hs (ownsRow_at own (hb g hg.1 hg.2)) rng apart ?_ ?_ ?_ ?_ ?_ ck ca ?_
    · intro i x hx
      have := R i x hx
      exact (ea i x hx).apart (by omega) fun k h1 h2 => hb k (by omega) (by omega)
    · intro i x hx
      have := R i x hx
      exact (eb i x hx).apart (by omega) fun k h1 h2 => hb k (by omega) (by omega)
    · intro i x hx
      have := R i x hx
      exact ihd i x hx (by omega) fun k h1 h2 => hb k (by omega) (by omega)
    · intro i x hx
      have := R i x hx
      exact ihe i x hx (by omega) fun k h1 h2 => hb k (by omega) (by omega)
    · intro i x hx
      have := R i x hx
      obtain ⟨e1, e2, e3⟩ := ec i x hx
      exact ⟨e1, e2, ownsRow_at e3 (hb (gc i) (by omega) (by omega))⟩
    · intro i x k y hx hy
      have := R i x hx
      have := ck i x k hx (List.getElem?_eq_some_iff.1 hy).1
      exact ihk i x k y hx hy (by omega) fun k h1 h2 => hb k (by omega) (by omega)
/-- The cells of a row that one owns. -/
theorem ownsRow_rowOf {w : World} {lo : Nat} {e : TypeId} {size g n cap : Nat} {f : Nat → List Value} {xs : List Value} (h : w.ownsRow lo e size (.slice (some ⟨g, 0, none⟩) (n + 1) cap) (n + 1) (rowsOf f n ++ xs)) (hf : ∀ j, j < n → (f j).length = size) :
    n ≤ cap ∧ cap ≤ maxLen ∧ g < w.heap.size ∧ ∀ i j u, i < n → j < size → (f i)[j]? = some u → w.cell? ⟨g, i * size + j, none⟩ = some u := by
  have hc := fun (k : Nat) (u : Value) => World.ownsRow.cells h (g := g) rfl k u
  rcases h.2 with ⟨h1, _⟩ | ⟨g', vcap, cur, hv, hg', hgh, hn, hm, _, _⟩
  · cases h1
  · cases hv
    refine ⟨by omega, hm, (Array.getElem?_eq_some_iff.1 hgh).1, fun i j u hi hj hu => ?_⟩
    have hl := rowsOf_len n hf
    have : (i + 1) * size ≤ n * size := Nat.mul_le_mul_right _ (by omega)
    rw [Nat.succ_mul] at this
    have h := hc (i * size + j) u (by rw [List.getElem?_append_left (by omega), rowsOf_get hf i j hi hj]; exact hu)
    have ha : (⟨g, 0, none⟩ : Addr).add (i * size + j) = ⟨g, i * size + j, none⟩ := by unfold Addr.add; split <;> simp_all
    rw [← ha]; exact h
theorem OwnSts.reads {w : World} {lo hi : Nat} {l : List St} {v : Value} (h : OwnSts w lo hi l v) : StsIn w l v := by
  induction h with
  | mk lo hi l g cap va vb vd ve vc vk m gc cc lk hk hg hs own rng apart ea eb ed ee ec ck ca each ihd ihe ihk =>
    obtain ⟨k1, k2, k3, k4⟩ := ownsRow_rowOf own (stRow_len l va vb vd ve vc)
    refine .mk l _ va vb vd ve vc vk ?_ (fun i x hx => (ea i x hx).reads) (fun i x hx => (eb i x hx).reads) ihd ihe ?_ ihk
    · refine ⟨some ⟨g, 0, none⟩, cap, rfl, k1, k2, by simp, fun _ => ⟨g, 0, rfl, k3, fun i hi x hx => ?_⟩⟩
      have k : ∀ (j : Nat) u, j < 14 → (stVs x (va i) (vb i) (vd i) (ve i) (vc i))[j]? = some u → w.cell? ⟨g, 0 + i * 14 + j, none⟩ = some u := fun j u hj hu => by
        rw [Nat.zero_add]; exact k4 i j u hi hj (by rw [stRow_at hx]; exact hu)
      exact ⟨k 0 _ (by decide) rfl, k 1 _ (by decide) rfl, k 2 _ (by decide) rfl, k 3 _ (by decide) rfl, k 4 _ (by decide) rfl, k 5 _ (by decide) rfl, k 6 _ (by decide) rfl, k 7 _ (by decide) rfl, k 8 _ (by decide) rfl, k 9 _ (by decide) rfl, k 10 _ (by decide) rfl, k 11 _ (by decide) rfl, k 12 _ (by decide) rfl, k 13 _ (by decide) rfl⟩
    · intro i x hx
      obtain ⟨e1, e2, e3⟩ := ec i x hx
      obtain ⟨q1, q2, q3, q4⟩ := ownsRow_rowOf e3 (csRow_len x.cases (vk i))
      refine ⟨some ⟨gc i, 0, none⟩, cc i, e1, q1, q2, by simp, fun _ => ⟨gc i, 0, rfl, q3, fun k hk y hy => ?_⟩⟩
      have q : ∀ (j : Nat) u, j < 2 → (csVs y (vk i k))[j]? = some u → w.cell? ⟨gc i, 0 + k * 2 + j, none⟩ = some u := fun j u hj hu => by
        rw [Nat.zero_add]; exact q4 k j u hk hj (by rw [csRow_at hy]; exact hu)
      exact ⟨q 0 _ (by decide) rfl, q 1 _ (by decide) rfl⟩
theorem OwnSts.wide {w : World} {lo hi lo' hi' : Nat} {l : List St} {v : Value} (h : OwnSts w lo hi l v) (h1 : lo' ≤ lo) (h2 : hi ≤ hi') (h3 : hi' ≤ w.heap.size) : OwnSts w lo' hi' l v := by
  cases h with
  | mk _ _ _ g cap va vb vd ve vc vk m gc cc lk hk hg hs own rng apart ea eb ed ee ec ck ca each =>
    exact .mk lo' hi' l g cap va vb vd ve vc vk m gc cc lk hk ⟨by omega, by omega⟩ h3 (ownsRow_low own h1) (fun i hi => by
      have := rng i hi
      omega) apart ea eb ed ee ec ck ca each
end Go.Proofs.Ytgcplcffejbniaa

/- stmtsOf: statements in memory of their own. -/
namespace Go.Proofs.Ytgcplcffejbniaa
open Go.RowKit

theorem Try.infoStmt : (Try.prog.info? 48).map (fun i => (i.zero, i.size, i.bytes)) = some (some (.agg #[.int .i64 0, .string ⟨#[]⟩, .int .i64 0, .int .i64 0, .int .i64 0, .string ⟨#[]⟩, .slice none 0 0, .int .i64 0, .int .i64 0, .string ⟨#[]⟩, .slice none 0 0, .slice none 0 0, .slice none 0 0, .slice none 0 0]), 14, 216) := by kernel_rfl
theorem Try.infoCase : (Try.prog.info? 86).map (fun i => (i.zero, i.size, i.bytes)) = some (some (.agg #[.int .i64 0, .slice none 0 0]), 2, 32) := by kernel_rfl
/-- 'cs = append(cs, x)', cs a list of cases of the call's own. -/
theorem append_cs {ops : Array Oper} {rest : List Oper} {o : Oper} {a : Act} {Q : Exit → Act → World → Prop} {w : World} (hgd : o.guard = none) (s x : Operand)
    (ho : o.op = .call { callee := .builtin .append, args := #[s, x], argTypes := #[46, 46] })
    (B : Nat) (v : Value) (n : Nat) (xs : List Value) (hs : a.eval s = v) (hown : w.ownsRow B 86 2 v n xs) (k : Int) (av : Option Addr) (nv cv : Nat) (hx : a.eval x = .slice (some ⟨w.heap.size, 0, none⟩) 1 1)
    (hl : n ≤ 5000000) (hB : B ≤ w.heap.size)
    (h : ∀ v' w', w'.ownsRow B 86 2 v' (n + 1) (xs ++ [.int .i64 k, .slice av nv cv]) → (w.alloc (.cells #[.int .i64 k, .slice av nv cv] 86)).grownBy w' v.ownBlock → Fresh (w.alloc (.cells #[.int .i64 k, .slice av nv cv] 86)) v v' → wpList Try.prog ops Q rest (a.put o.dst v') w') :
    wpList Try.prog ops Q (o :: rest) a (w.alloc (.cells #[.int .i64 k, .slice av nv cv] 86)) := by
  refine append_gen hgd s x 46 ho Try.underlying46 Try.infoCase rfl (by decide) B v n xs hs (World.ownsRow.alloc hown _) _ 1 [.int .i64 k, .slice av nv cv] hx (sliceIn_new w [.int .i64 k, .slice av nv cv] 1 2 86 rfl (by decide)) ?_ ?_ ?_ ?_ ?_
  · intro u hu; simp at hu; rcases hu with rfl | rfl <;> rfl
  · unfold maxLen; omega
  · omega
  · simp; omega
  · intro v' w' h1 h2 h3 _
    exact h v' w' h1 h2 h3
/-- 'out = append(out, x)', out a list of statements of the call's own. -/
theorem append_st {ops : Array Oper} {rest : List Oper} {o : Oper} {a : Act} {Q : Exit → Act → World → Prop} {w : World} (hgd : o.guard = none) (s x : Operand)
    (ho : o.op = .call { callee := .builtin .append, args := #[s, x], argTypes := #[38, 38] })
    (B : Nat) (v : Value) (n : Nat) (xs : List Value) (hs : a.eval s = v) (hown : w.ownsRow B 48 14 v n xs) (x0 x2 x3 x4 x7 x8 : Int) (x1 x5 x9 : ByteArray) (a1 a2 a3 a4 a5 : Option Addr) (n1 n2 n3 n4 n5 c1 c2 c3 c4 c5 : Nat) (hx : a.eval x = .slice (some ⟨w.heap.size, 0, none⟩) 1 1)
    (hl : n ≤ 5000000) (hB : B ≤ w.heap.size)
    (h : ∀ v' w', w'.ownsRow B 48 14 v' (n + 1) (xs ++ [.int .i64 x0, .string x1, .int .i64 x2, .int .i64 x3, .int .i64 x4, .string x5, .slice a1 n1 c1, .int .i64 x7, .int .i64 x8, .string x9, .slice a2 n2 c2, .slice a3 n3 c3, .slice a4 n4 c4, .slice a5 n5 c5]) → (w.alloc (.cells #[.int .i64 x0, .string x1, .int .i64 x2, .int .i64 x3, .int .i64 x4, .string x5, .slice a1 n1 c1, .int .i64 x7, .int .i64 x8, .string x9, .slice a2 n2 c2, .slice a3 n3 c3, .slice a4 n4 c4, .slice a5 n5 c5] 48)).grownBy w' v.ownBlock → Fresh (w.alloc (.cells #[.int .i64 x0, .string x1, .int .i64 x2, .int .i64 x3, .int .i64 x4, .string x5, .slice a1 n1 c1, .int .i64 x7, .int .i64 x8, .string x9, .slice a2 n2 c2, .slice a3 n3 c3, .slice a4 n4 c4, .slice a5 n5 c5] 48)) v v' → wpList Try.prog ops Q rest (a.put o.dst v') w') :
    wpList Try.prog ops Q (o :: rest) a (w.alloc (.cells #[.int .i64 x0, .string x1, .int .i64 x2, .int .i64 x3, .int .i64 x4, .string x5, .slice a1 n1 c1, .int .i64 x7, .int .i64 x8, .string x9, .slice a2 n2 c2, .slice a3 n3 c3, .slice a4 n4 c4, .slice a5 n5 c5] 48)) := by
  refine append_gen hgd s x 38 ho Try.underlying38 Try.infoStmt rfl (by decide) B v n xs hs (World.ownsRow.alloc hown _) _ 1 [.int .i64 x0, .string x1, .int .i64 x2, .int .i64 x3, .int .i64 x4, .string x5, .slice a1 n1 c1, .int .i64 x7, .int .i64 x8, .string x9, .slice a2 n2 c2, .slice a3 n3 c3, .slice a4 n4 c4, .slice a5 n5 c5] hx (sliceIn_new w [.int .i64 x0, .string x1, .int .i64 x2, .int .i64 x3, .int .i64 x4, .string x5, .slice a1 n1 c1, .int .i64 x7, .int .i64 x8, .string x9, .slice a2 n2 c2, .slice a3 n3 c3, .slice a4 n4 c4, .slice a5 n5 c5] 1 14 48 rfl (by decide)) ?_ ?_ ?_ ?_ ?_
  · intro u hu; simp at hu; rcases hu with rfl | rfl | rfl | rfl | rfl | rfl | rfl | rfl | rfl | rfl | rfl | rfl | rfl | rfl <;> rfl
  · unfold maxLen; omega
  · omega
  · simp; omega
  · intro v' w' h1 h2 h3 _
    exact h v' w' h1 h2 h3
/-- The first i cases are copied. -/
structure CsMade (w : World) (lo : Nat) (l : List Cs) (i g cap : Nat) (vk : Nat → Value) (los his : Nat → Nat) : Prop where
  hg : lo ≤ g ∧ g < w.heap.size
  own : w.ownsRow lo 86 2 (.slice (some ⟨g, 0, none⟩) i cap) i (rowsOf (csRow l vk) i)
  rng : ∀ j, j < i → lo ≤ los j ∧ los j ≤ his j ∧ his j ≤ w.heap.size ∧ ¬ (los j ≤ g ∧ g < his j)
  apart : ∀ j k, j < k → k < i → his j ≤ los k
  each : ∀ (j : Nat) x, j < i → l[j]? = some x → OwnSts w (los j) (his j) x.body (vk j)
theorem CsMade.next {wr w7 : World} {lo : Nat} {l : List Cs} {i g cap : Nat} {vs : Nat → Value} {los his : Nat → Nat} (h : CsMade wr lo l i g cap vs los his) {y : Cs} (hy : l[i]? = some y)
    (hb : ∀ k, lo ≤ k → k < wr.heap.size → k ≠ g → w7.heap[k]? = wr.heap[k]?) {lo5 hi5 : Nat} {v5 : Value} (hn : OwnSts w7 lo5 hi5 y.body v5) (h1 : wr.heap.size ≤ lo5) (h2 : lo5 ≤ hi5) (h3 : hi5 ≤ w7.heap.size)
    {g7 cap7 : Nat} (hrow : w7.ownsRow lo 86 2 (.slice (some ⟨g7, 0, none⟩) (i + 1) cap7) (i + 1) (rowsOf (csRow l vs) i ++ csVs y v5)) (hg : lo ≤ g7 ∧ g7 < w7.heap.size) (hg7 : g7 = g ∨ hi5 ≤ g7) :
    CsMade w7 lo l (i + 1) g7 cap7 (fun j => if j = i then v5 else vs j) (fun j => if j = i then lo5 else los j) (fun j => if j = i then hi5 else his j) := by
  have hgr := h.hg
  refine ⟨hg, ?_, ?_, ?_, ?_⟩
  · rw [rowsOf, csRow_at hy, rowsOf_ext (g := csRow l vs) i fun j hj => by unfold csRow; simp only [if_neg (show ¬ j = i by omega)]]
    simp only [if_true]
    exact hrow
  · intro j hj
    by_cases e : j = i
    · subst e; simp only [if_true]; refine ⟨by omega, h2, h3, ?_⟩; omega
    · simp only [if_neg e]
      obtain ⟨r1, r2, r3, r4⟩ := h.rng j (by omega)
      refine ⟨r1, r2, by omega, ?_⟩
      rcases hg7 with rfl | hg7
      · exact r4
      · omega
  · intro j k hjk hk
    by_cases e : k = i
    · subst e; simp only [if_true, if_neg (Nat.ne_of_lt hjk)]
      have := (h.rng j hjk).2.2.1; omega
    · simp only [if_neg e, if_neg (show ¬ j = i by omega)]; exact h.apart j k hjk (by omega)
  · intro j x hj hx
    by_cases e : j = i
    · subst e; rw [hy] at hx; cases hx; simp only [if_true]; exact hn
    · simp only [if_neg e]
      obtain ⟨r1, r2, r3, r4⟩ := h.rng j (by omega)
      exact (h.each j x (by omega) hx).apart (by omega) fun k k1 k2 => hb k (by omega) (by omega) fun e => r4 (by omega)
/-- All of one statement's parts, in memory of their own in [m 0, m 5). -/
structure OwnParts (w : World) (x : St) (va vb vd ve vc : Value) (vk : Nat → Value) (m : Nat → Nat) (gc cc : Nat) (lk hk : Nat → Nat) : Prop where
  ord : m 0 ≤ m 1 ∧ m 1 ≤ m 2 ∧ m 2 ≤ m 3 ∧ m 3 ≤ m 4 ∧ m 4 ≤ m 5
  ea : OwnExs w (m 0) (m 1) x.a.args va
  eb : OwnExs w (m 1) (m 2) x.b.args vb
  ed : OwnSts w (m 2) (m 3) x.body vd
  ee : OwnSts w (m 3) (m 4) x.els ve
  ec : vc = .slice (some ⟨gc, 0, none⟩) x.cases.length cc ∧ (m 4 ≤ gc ∧ gc < m 5) ∧
    w.ownsRow (m 4) 86 2 (.slice (some ⟨gc, 0, none⟩) (x.cases.length + 1) cc) (x.cases.length + 1) (rowsOf (csRow x.cases vk) x.cases.length ++ spareCs)
  ck : ∀ k, k < x.cases.length → m 4 ≤ lk k ∧ lk k ≤ hk k ∧ hk k ≤ m 5 ∧ ¬ (lk k ≤ gc ∧ gc < hk k)
  ca : ∀ j k, j < k → k < x.cases.length → hk j ≤ lk k
  each : ∀ (k : Nat) y, x.cases[k]? = some y → OwnSts w (lk k) (hk k) y.body (vk k)
theorem OwnParts.apart {w w' : World} {x : St} {va vb vd ve vc : Value} {vk : Nat → Value} {m : Nat → Nat} {gc cc : Nat} {lk hk : Nat → Nat} (h : OwnParts w x va vb vd ve vc vk m gc cc lk hk) (hs : m 5 ≤ w'.heap.size) (hb : ∀ k, m 0 ≤ k → k < m 5 → w'.heap[k]? = w.heap[k]?) : OwnParts w' x va vb vd ve vc vk m gc cc lk hk := by
  have o := h.ord
  refine ⟨h.ord, h.ea.apart (by omega) fun k _ _ => hb k (by omega) (by omega), h.eb.apart (by omega) fun k _ _ => hb k (by omega) (by omega), h.ed.apart (by omega) fun k _ _ => hb k (by omega) (by omega), h.ee.apart (by omega) fun k _ _ => hb k (by omega) (by omega),
    ⟨h.ec.1, h.ec.2.1, ownsRow_at h.ec.2.2 (hb gc (by have := h.ec.2.1; omega) (by have := h.ec.2.1; omega))⟩, h.ck, h.ca, fun k y hy => ?_⟩
  have := h.ck k (List.getElem?_eq_some_iff.1 hy).1
  exact (h.each k y hy).apart (by omega) fun k _ _ => hb k (by omega) (by omega)
/-- The first i statements are copied. -/
structure StMade (w : World) (lo : Nat) (l : List St) (i g cap : Nat) (va vb vd ve vc : Nat → Value) (vk : Nat → Nat → Value) (m : Nat → Nat → Nat) (gc cc : Nat → Nat) (lk hk : Nat → Nat → Nat) : Prop where
  hg : lo ≤ g ∧ g < w.heap.size
  own : w.ownsRow lo 48 14 (.slice (some ⟨g, 0, none⟩) i cap) i (rowsOf (stRow l va vb vd ve vc) i)
  rng : ∀ j, j < i → lo ≤ m j 0 ∧ m j 5 ≤ w.heap.size ∧ ¬ (m j 0 ≤ g ∧ g < m j 5)
  apart : ∀ j k, j < k → k < i → m j 5 ≤ m k 0
  each : ∀ (j : Nat) x, j < i → l[j]? = some x → OwnParts w x (va j) (vb j) (vd j) (ve j) (vc j) (vk j) (m j) (gc j) (cc j) (lk j) (hk j)
def setAt {α : Type} (f : Nat → α) (i : Nat) (v : α) (j : Nat) : α := if j = i then v else f j
theorem setAt_same {α : Type} (f : Nat → α) (i : Nat) (v : α) : setAt f i v i = v := if_pos rfl
theorem setAt_other {α : Type} (f : Nat → α) (i : Nat) (v : α) {j : Nat} (h : ¬ j = i) : setAt f i v j = f j := if_neg h
theorem StMade.next {wr w7 : World} {lo : Nat} {l : List St} {i g cap : Nat} {va vb vd ve vc : Nat → Value} {vk : Nat → Nat → Value} {m : Nat → Nat → Nat} {gc cc : Nat → Nat} {lk hk : Nat → Nat → Nat} (h : StMade wr lo l i g cap va vb vd ve vc vk m gc cc lk hk) {y : St} (hy : l[i]? = some y)
    (hb : ∀ k, lo ≤ k → k < wr.heap.size → k ≠ g → w7.heap[k]? = wr.heap[k]?) {xa xb xd xe xc : Value} {xk : Nat → Value} {xm : Nat → Nat} {xg xx : Nat} {yl yh : Nat → Nat} (hn : OwnParts w7 y xa xb xd xe xc xk xm xg xx yl yh) (h1 : wr.heap.size ≤ xm 0) (h3 : xm 5 ≤ w7.heap.size)
    {g7 cap7 : Nat} (hrow : w7.ownsRow lo 48 14 (.slice (some ⟨g7, 0, none⟩) (i + 1) cap7) (i + 1) (rowsOf (stRow l va vb vd ve vc) i ++ stVs y xa xb xd xe xc)) (hg : lo ≤ g7 ∧ g7 < w7.heap.size) (hg7 : g7 = g ∨ xm 5 ≤ g7) :
    StMade w7 lo l (i + 1) g7 cap7 (setAt va i xa) (setAt vb i xb) (setAt vd i xd) (setAt ve i xe) (setAt vc i xc) (setAt vk i xk) (setAt m i xm) (setAt gc i xg) (setAt cc i xx) (setAt lk i yl) (setAt hk i yh) := by
  have hgr := h.hg
  have o := hn.ord
  refine ⟨hg, ?_, ?_, ?_, ?_⟩
  · rw [rowsOf, stRow_at hy, rowsOf_ext (g := stRow l va vb vd ve vc) i fun j hj => by unfold stRow; simp only [setAt_other _ _ _ (show ¬ j = i by omega)]]
    simp only [setAt_same]
    exact hrow
  · intro j hj
    by_cases e : j = i
    · subst e; simp only [setAt_same]; refine ⟨by omega, h3, ?_⟩; omega
    · simp only [setAt_other _ _ _ e]
      obtain ⟨r1, r3, r4⟩ := h.rng j (by omega)
      refine ⟨r1, by omega, ?_⟩
      rcases hg7 with rfl | hg7
      · exact r4
      · omega
  · intro j k hjk hk
    by_cases e : k = i
    · subst e; simp only [setAt_same, setAt_other _ _ _ (Nat.ne_of_lt hjk)]
      have := (h.rng j hjk).2.1; omega
    · simp only [setAt_other _ _ _ e, setAt_other _ _ _ (show ¬ j = i by omega)]; exact h.apart j k hjk (by omega)
  · intro j x hj hx
    by_cases e : j = i
    · subst e; rw [hy] at hx; cases hx; simp only [setAt_same]; exact hn
    · simp only [setAt_other _ _ _ e]
      obtain ⟨r1, r3, r4⟩ := h.rng j (by omega)
      exact (h.each j x (by omega) hx).apart (by omega) fun k k1 k2 => hb k (by omega) (by omega) fun e => r4 (by omega)
/-- All statements are copied and the spare one stands behind them. -/
theorem StMade.all {wr w7 : World} {lo : Nat} {l : List St} {g cap : Nat} {va vb vd ve vc : Nat → Value} {vk : Nat → Nat → Value} {m : Nat → Nat → Nat} {gc cc : Nat → Nat} {lk hk : Nat → Nat → Nat} (h : StMade wr lo l l.length g cap va vb vd ve vc vk m gc cc lk hk)
    (hb : ∀ k, lo ≤ k → k < wr.heap.size → k ≠ g → w7.heap[k]? = wr.heap[k]?) (hs : wr.heap.size ≤ w7.heap.size)
    {g7 cap7 : Nat} (hrow : w7.ownsRow lo 48 14 (.slice (some ⟨g7, 0, none⟩) (l.length + 1) cap7) (l.length + 1) (rowsOf (stRow l va vb vd ve vc) l.length ++ spareSt)) (hg : lo ≤ g7 ∧ g7 < w7.heap.size) (hg7 : g7 = g ∨ wr.heap.size ≤ g7) :
    OwnSts w7 lo w7.heap.size l (.slice (some ⟨g7, 0, none⟩) l.length cap7) := by
  have P : ∀ (j : Nat) x, l[j]? = some x → OwnParts w7 x (va j) (vb j) (vd j) (ve j) (vc j) (vk j) (m j) (gc j) (cc j) (lk j) (hk j) := fun j x hx => by
    have hj := (List.getElem?_eq_some_iff.1 hx).1
    obtain ⟨r1, r3, r4⟩ := h.rng j hj
    have o := (h.each j x hj hx).ord
    exact (h.each j x hj hx).apart (by omega) fun k k1 k2 => hb k (by omega) (by omega) fun e => r4 (by omega)
  refine .mk lo _ l g7 cap7 va vb vd ve vc vk m gc cc lk hk hg (Nat.le_refl _) hrow (fun j hj => ?_) h.apart (fun j x hx => (P j x hx).ea) (fun j x hx => (P j x hx).eb) (fun j x hx => (P j x hx).ed) (fun j x hx => (P j x hx).ee) (fun j x hx => (P j x hx).ec) (fun j x k hx hk => (P j x hx).ck k hk) (fun j x k k' hx h1 h2 => (P j x hx).ca k k' h1 h2) (fun j x k y hx hy => (P j x hx).each k y hy)
  obtain ⟨r1, r3, r4⟩ := h.rng j hj
  have o := (P j _ (List.getElem?_eq_getElem hj)).ord
  omega
end Go.Proofs.Ytgcplcffejbniaa

namespace Go.Proofs.Ytgcplcffejbniaa
open Go.RowKit

theorem len_tot (l : List St) : l.length ≤ St.totals l := by
  induction l with
  | nil => simp
  | cons x l ih => have := x.total_eq; simp only [List.length_cons, St.totals]; omega
theorem two_in {W : World} {D : Nat} {a b : Ex} {va vb : Value} (ha : ExAt W D 0 a va) (hb : ExAt W D 4 b vb) (hD : D < W.heap.size) (ia : ExsIn W a.args va) (ib : ExsIn W b.args vb) : ExsIn W [a, b] (.slice (some ⟨D, 0, none⟩) 2 2) := by
  refine .mk _ _ (fun i => if i = 0 then va else vb) ⟨some ⟨D, 0, none⟩, 2, rfl, Nat.le_refl _, by decide, by simp, fun _ => ⟨D, 0, rfl, hD, fun i hi x hx => ?_⟩⟩ fun i x hx => ?_
  · match i, hi with
    | 0, _ => cases hx; simpa using ha
    | 1, _ => cases hx; simpa using hb
  · match i with
    | 0 => cases hx; simpa using ia
    | 1 => cases hx; simpa using ib
    | i + 2 => simp at hx
theorem two_own {w : World} {lo hi : Nat} {a b : Ex} {v : Value} (h : OwnExs w lo hi [a, b] v) : ∃ g c va vb m0 m1, v = .slice (some ⟨g, 0, none⟩) 2 c ∧ 2 ≤ c ∧ lo ≤ g ∧ g < hi ∧ ExAt w g 0 a va ∧ ExAt w g 4 b vb ∧ lo ≤ m0 ∧ m0 ≤ m1 ∧ m1 ≤ hi ∧ OwnExs w m0 m1 a.args va ∧ OwnExs w m1 hi b.args vb := by
  have hr := h.reads
  cases h with
  | mk _ _ _ g cap vs los his hg hs own rng apart each =>
    obtain ⟨r1, r2, r3, _⟩ := rng 0 (by simp)
    obtain ⟨q1, q2, q3, _⟩ := rng 1 (by simp)
    have a1 := apart 0 1 (by omega) (by simp)
    have hcap : 2 ≤ cap := by
      obtain ⟨_, _, e, h1, _⟩ := hr.form
      cases e; simpa using h1
    have k : ∀ (i j : Nat) x u, [a, b][i]? = some x → j < 4 → (exVs x (vs i))[j]? = some u → w.cell? ⟨g, i * 4 + j, none⟩ = some u := fun i j x u hx hj hu => by
      have h := World.ownsRow.cells own (g := g) rfl (i * 4 + j) u (by rw [List.getElem?_append_left (by rw [exCells_len]; have := (List.getElem?_eq_some_iff.1 hx).1; omega), exCells_get hx j hj]; exact hu)
      have ha : (⟨g, 0, none⟩ : Addr).add (i * 4 + j) = ⟨g, i * 4 + j, none⟩ := by unfold Addr.add; split <;> simp_all
      rw [← ha]; exact h
    refine ⟨g, cap, vs 0, vs 1, los 0, his 0, rfl, hcap, hg.1, hg.2, ?_, ?_, r1, r2, by omega, each 0 a rfl, (each 1 b rfl).wide a1 q3 hs⟩
    · exact ⟨k 0 0 a _ rfl (by decide) rfl, k 0 1 a _ rfl (by decide) rfl, k 0 2 a _ rfl (by decide) rfl, k 0 3 a _ rfl (by decide) rfl⟩
    · exact ⟨k 1 0 b _ rfl (by decide) rfl, k 1 1 b _ rfl (by decide) rfl, k 1 2 b _ rfl (by decide) rfl, k 1 3 b _ rfl (by decide) rfl⟩
theorem two_tot (x : St) : Ex.totals [x.a, x.b] ≤ x.total + 2 := by
  have h : ∀ y : Ex, y.total ≤ y.part + 1 := fun y => by
    unfold Ex.part
    split
    · rename_i hz
      have : y.args = [] := by
        unfold Ex.zero at hz
        simp at hz
        exact hz.2
      rw [y.total_eq, this]; simp [Ex.totals]
    · omega
  have := h x.a; have := h x.b; have := x.total_eq
  simp only [Ex.totals]; omega
theorem cell_set (w : World) (p q : Addr) (v : Value) : (w.setCell p v).cell? q = if q = p then (if (w.cell? p).isSome then some v else (w.setCell p v).cell? p) else w.cell? q := by
  by_cases h : q = p
  · subst h
    rw [if_pos rfl]
    split
    · rename_i h2; exact World.cell?_setCell_same' w q v h2
    · rfl
  · rw [if_neg h]; exact World.cell?_setCell_other _ _ _ _ (fun e => h e.symm)
theorem StAt.setA {w : World} {D : Nat} {x : St} {va vb vd ve vc : Value} (h : StAt w D 0 x va vb vd ve vc) (v : Value) :
    StAt ((((w.setCell ⟨D, 3, none⟩ (.int .i64 x.a.kind)).setCell ⟨D, 4, none⟩ (.int .i64 x.a.n)).setCell ⟨D, 5, none⟩ (.string x.a.name)).setCell ⟨D, 6, none⟩ v) D 0 x v vb vd ve vc := by
  obtain ⟨i0, i1, i2, i3, i4, i5, i6, i7, i8, i9, i10, i11, i12, i13⟩ := h
  simp only [Nat.zero_add] at *
  constructor <;> simp [cell_set, *]
theorem StAt.setB {w : World} {D : Nat} {x : St} {va vb vd ve vc : Value} (h : StAt w D 0 x va vb vd ve vc) (v : Value) :
    StAt ((((w.setCell ⟨D, 7, none⟩ (.int .i64 x.b.kind)).setCell ⟨D, 8, none⟩ (.int .i64 x.b.n)).setCell ⟨D, 9, none⟩ (.string x.b.name)).setCell ⟨D, 10, none⟩ v) D 0 x va v vd ve vc := by
  obtain ⟨i0, i1, i2, i3, i4, i5, i6, i7, i8, i9, i10, i11, i12, i13⟩ := h
  simp only [Nat.zero_add] at *
  constructor <;> simp [cell_set, *]
theorem StAt.setD {w : World} {D : Nat} {x : St} {va vb vd ve vc : Value} (h : StAt w D 0 x va vb vd ve vc) (v : Value) : StAt (w.setCell ⟨D, 11, none⟩ v) D 0 x va vb v ve vc := by
  obtain ⟨i0, i1, i2, i3, i4, i5, i6, i7, i8, i9, i10, i11, i12, i13⟩ := h
  simp only [Nat.zero_add] at *
  constructor <;> simp [cell_set, *]
theorem StAt.setE {w : World} {D : Nat} {x : St} {va vb vd ve vc : Value} (h : StAt w D 0 x va vb vd ve vc) (v : Value) : StAt (w.setCell ⟨D, 12, none⟩ v) D 0 x va vb vd v vc := by
  obtain ⟨i0, i1, i2, i3, i4, i5, i6, i7, i8, i9, i10, i11, i12, i13⟩ := h
  simp only [Nat.zero_add] at *
  constructor <;> simp [cell_set, *]
theorem StAt.setC {w : World} {D : Nat} {x : St} {va vb vd ve vc : Value} (h : StAt w D 0 x va vb vd ve vc) (v : Value) : StAt (w.setCell ⟨D, 13, none⟩ v) D 0 x va vb vd ve v := by
  obtain ⟨i0, i1, i2, i3, i4, i5, i6, i7, i8, i9, i10, i11, i12, i13⟩ := h
  simp only [Nat.zero_add] at *
  constructor <;> simp [cell_set, *]
/-- 'cs = append(cs, x)' within a region that draws. -/
theorem append_cs_wp {o : Oper} {a : Act} {K : Act → World → Prop} {Q : Exit → Act → World → Prop} {w : World} (s x : Operand)
    (ho : o.op = .call { callee := .builtin .append, args := #[s, x], argTypes := #[46, 46] })
    (B : Nat) (v : Value) (n : Nat) (xs : List Value) (hs : a.eval s = v) (hown : w.ownsRow B 86 2 v n xs) (k : Int) (av : Option Addr) (nv cv : Nat) (hx : a.eval x = .slice (some ⟨w.heap.size, 0, none⟩) 1 1)
    (hl : n ≤ 5000000) (hB : B ≤ w.heap.size)
    (h : ∀ v' w', w'.ownsRow B 86 2 v' (n + 1) (xs ++ [.int .i64 k, .slice av nv cv]) → (w.alloc (.cells #[.int .i64 k, .slice av nv cv] 86)).grownBy w' v.ownBlock → Fresh (w.alloc (.cells #[.int .i64 k, .slice av nv cv] 86)) v v' → K (a.put o.dst v') w') :
    o.wp Try.prog a (w.alloc (.cells #[.int .i64 k, .slice av nv cv] 86)) K Q := by
  obtain ⟨v', w', hr, h2, h3, h4⟩ := append_run (P := Try.prog) (w := w.alloc (.cells #[.int .i64 k, .slice av nv cv] 86)) (t := 46) (ty := o.type) Try.underlying46 Try.infoCase rfl (by decide) B v n xs (World.ownsRow.alloc hown _) _ 1 [.int .i64 k, .slice av nv cv] (sliceIn_new w [.int .i64 k, .slice av nv cv] 1 2 86 rfl (by decide))
    (by intro u hu; simp at hu; rcases hu with rfl | rfl <;> rfl) (by unfold maxLen; omega) (by omega) (by simp; omega)
  unfold Oper.wp execOp
  simp only [ho, resolve, invoke, builtin, Sem.run_bind, Sem.run_pure, Result.andThen_ok, List.map_toArray, List.map_cons, List.map_nil, hs, hx, hr]
  exact h v' w' h2 h3 h4
theorem CsMade.all {wr w7 : World} {lo : Nat} {l : List Cs} {g cap : Nat} {vk : Nat → Value} {los his : Nat → Nat} (h : CsMade wr lo l l.length g cap vk los his)
    (hb : ∀ k, lo ≤ k → k < wr.heap.size → k ≠ g → w7.heap[k]? = wr.heap[k]?) (hs : wr.heap.size ≤ w7.heap.size) {g7 : Nat} (hg7 : g7 = g ∨ wr.heap.size ≤ g7) :
    (∀ k, k < l.length → lo ≤ los k ∧ los k ≤ his k ∧ his k ≤ w7.heap.size ∧ ¬ (los k ≤ g7 ∧ g7 < his k)) ∧ (∀ (k : Nat) y, l[k]? = some y → OwnSts w7 (los k) (his k) y.body (vk k)) := by
  refine ⟨fun k hk => ?_, fun k y hy => ?_⟩
  · obtain ⟨r1, r2, r3, r4⟩ := h.rng k hk
    refine ⟨r1, r2, by omega, ?_⟩
    rcases hg7 with rfl | hg7
    · exact r4
    · omega
  · have hj := (List.getElem?_eq_some_iff.1 hy).1
    obtain ⟨r1, r2, r3, r4⟩ := h.rng k hj
    exact (h.each k y hj hy).apart (by omega) fun k k1 k2 => hb k (by omega) (by omega) fun e => r4 (by omega)
/-- The copy of statement x is under way: its box is at D, a and b stand. -/
structure Mid (wr w : World) (D : Nat) (x : St) (va vb vd ve vc : Value) : Prop where
  below : Below wr.heap.size wr w
  st : StAt w D 0 x va vb vd ve vc
  fr : ∀ j, w.frozen? ⟨D, j, none⟩ = false
  lt : wr.heap.size ≤ D ∧ D < w.heap.size
theorem Mid.later {wr w w' : World} {D : Nat} {x : St} {va vb vd ve vc : Value} (h : Mid wr w D x va vb vd ve vc) {B : Nat} (hb : Below B w w') (hB : D < B) : Mid wr w' D x va vb vd ve vc :=
  ⟨h.below.trans (hb.mono (by have := h.lt; omega)), h.st.later hb hB, fun j => (hb.frozen (p := ⟨D, j, none⟩) hB).trans (h.fr j), h.lt.1, Nat.lt_of_lt_of_le h.lt.2 hb.size⟩
theorem Mid.oth {wr w w' : World} {D : Nat} {x : St} {va vb vd ve vc va' vb' vd' ve' vc' : Value} (h : Mid wr w D x va vb vd ve vc) (hO : Oth (· = D) w w') (hf : ∀ j, w'.frozen? ⟨D, j, none⟩ = w.frozen? ⟨D, j, none⟩) (hs : StAt w' D 0 x va' vb' vd' ve' vc') : Mid wr w' D x va' vb' vd' ve' vc' :=
  ⟨h.below.trans (hO.below h.below.size fun k e => by have := h.lt; omega), hs, fun j => (hf j).trans (h.fr j), h.lt.1, Nat.lt_of_lt_of_le h.lt.2 hO.size⟩
def RCopyS (w0 : World) (l : List St) (v : Value) : Prop := ∀ (W : World), Below w0.heap.size w0 W → St.totals l ≤ 2000000 →
  Calls Try.prog 41 #[v] W (fun E W' => ∃ v', E = .returned v' ∧ Below W.heap.size W W' ∧ OwnSts W' W.heap.size W'.heap.size l v')
set_option maxRecDepth 100000 in
set_option maxHeartbeats 4000000 in
theorem copyS_any (l : List St) (v : Value) (w0 : World) (h : StsIn w0 l v) : RCopyS w0 l v := by
  induction h with
  | mk l v va vb vd ve vc vk h ha hb hd he hc hk ihd ihe ihk =>
  intro W hB hT
  obtain ⟨a, cap, rfl, hncap, hcap⟩ := h.form
  obtain ⟨n, hn⟩ : ∃ n, n = l.length := ⟨_, rfl⟩
  have Hn := Lib.hid hn
  have Hrow : Hid (RowOf w0 (.slice a n cap) l.length 14 (fun b o i => ∀ x, l[i]? = some x → StAt w0 b o x (va i) (vb i) (vd i) (ve i) (vc i))) := by rw [hn]; exact h
  have Hih := Lib.hid (And.intro ihd (And.intro ihe ihk))
  have Hf := Lib.hid (And.intro ha (And.intro hb (And.intro hd (And.intro he (And.intro hc hk)))))
  have HB := Lib.hid hB
  have HT := Lib.hid hT
  rw [← hn]
  have hn2 : n ≤ 2000000 := by
    have := len_tot l
    omega
  clear h ha hb hd he hc hk ihd ihe ihk hn hB hT hncap hcap
  obtain ⟨i0, hi0, hz0, hz1, hz2⟩ := info_parts Try.infoStmt
  obtain ⟨W1, hmk, hown1, hgr1⟩ := run_make_own W W.heap.size 38 48 i0 _ 14 Try.underlying38 hi0 hz0 hz1 .i64 .i64 (n + 1) (by rw [hz2]; omega) (by unfold maxLen; omega) (Nat.le_refl _)
  rw [show (((n + 1 : Nat)) : Int) = (n : Int) + 1 by omega] at hmk
  have hb1 : Below W.heap.size W W1 := (Below.refl _ _).grown hgr1 (Nat.le_refl _) (by intro k e; cases e)
  have hg1 : W.heap.size < W1.heap.size := (World.ownsRow.lt hown1 W.heap.size rfl).2
  obtain ⟨G, hG⟩ : ∃ g, g = W.heap.size := ⟨_, rfl⟩
  have hGW : G ≤ W.heap.size ∧ W.heap.size ≤ G := by omega
  have H1 := Lib.hid (And.intro hown1 (And.intro hb1 hg1))
  have Hmk := Lib.hid (And.intro hmk hG)
  have hn62 : n ≤ 9223372036854775807 := by omega
  clear hi0 hz0 hz1 hz2 hown1 hgr1 hb1
  go_enter Try.func41, Try.ntmps41
  go_upto_region 2 with (fail)
  clear hmk
  rw [← Hmk.out.2]
  go_wp2_with fail
  have hm0 : StMade W1 G l 0 G (n + 1) (fun _ => .bool false) (fun _ => .bool false) (fun _ => .bool false) (fun _ => .bool false) (fun _ => .bool false) (fun _ _ => .bool false) (fun _ _ => 0) (fun _ => 0) (fun _ => 0) (fun _ _ => 0) (fun _ _ => 0) := ⟨⟨Nat.le_refl _, by omega⟩, by rw [hG]; simpa [rowsOf] using H1.out.1, fun j h => absurd h (Nat.not_lt_zero _), fun j k h1 h2 => absurd h2 (Nat.not_lt_zero _), fun j x h => absurd h (Nat.not_lt_zero _)⟩
  have Hm0 := Lib.hid hm0
  clear hm0 hG
  go_loopg [3, 4] n (fun gk ov iv wx => ∃ (i g cap : Nat) (xa xb xd xe xc : Nat → Value) (xk : Nat → Nat → Value) (m : Nat → Nat → Nat) (gc cc : Nat → Nat) (lk hk : Nat → Nat → Nat), gk = n - i ∧ ov = .slice (some ⟨g, 0, none⟩) i cap ∧ iv = .int .i64 (i : Int) ∧ i ≤ n ∧ StMade wx G l i g cap xa xb xd xe xc xk m gc cc lk hk ∧ Below G W wx)
  case atStart => exact ⟨0, G, n + 1, _, _, _, _, _, _, _, _, _, _, _, rfl, rfl, rfl, Nat.zero_le _, Hm0.out, H1.out.2.1.mono hGW.1⟩
  case round =>
    obtain ⟨i, g, cp, xa, xb, xd, xe, xc, xk, m, gc, cc, lk, hk, hgk, rfl, rfl, hi, hm, hbw⟩ := hrel
    have Hg := Lib.hid hgk
    have Hm := Lib.hid (And.intro hm hbw)
    have HBr : Hid (Below w0.heap.size w0 wr) := HB.out.trans (hbw.mono (by have := HB.out.size; omega))
    have hgr := hm.hg
    clear hgk hm hbw
    by_cases hin : i < n
    · obtain ⟨x, hx⟩ : ∃ x, l[i]? = some x := ⟨_, List.getElem?_eq_getElem (by rw [← Hn.out]; exact hin)⟩
      obtain ⟨b, off, rfl, hb, hP⟩ := Hrow.out.at (i := i) (by rw [← Hn.out]; exact hin)
      have hst := (hP x hx).later HBr.out hb
      obtain ⟨fa, fb, fd, fe, fc, fk⟩ := Hf.out
      obtain ⟨aa, ca, hva, -⟩ := (fa i x hx).form
      obtain ⟨ab, cb, hvb, -⟩ := (fb i x hx).form
      obtain ⟨ad, cd, hvd, -⟩ := (fd i x hx).form
      obtain ⟨ae, ce, hve, -⟩ := (fe i x hx).form
      obtain ⟨ac, cc', hvc, hcc1, hcc2⟩ := (fc i x hx).form
      obtain ⟨na, hna⟩ : ∃ n, n = x.a.args.length := ⟨_, rfl⟩
      obtain ⟨nb, hnb⟩ : ∃ n, n = x.b.args.length := ⟨_, rfl⟩
      obtain ⟨nd, hnd⟩ : ∃ n, n = x.body.length := ⟨_, rfl⟩
      obtain ⟨ne, hne⟩ : ∃ n, n = x.els.length := ⟨_, rfl⟩
      obtain ⟨nc, hnc⟩ : ∃ n, n = x.cases.length := ⟨_, rfl⟩
      rw [hva, hvb, hvd, hve, hvc, ← hna, ← hnb, ← hnd, ← hne, ← hnc] at hst
      obtain ⟨D, hD⟩ : ∃ D, D = wr.heap.size := ⟨_, rfl⟩
      obtain ⟨W4, hW4⟩ : ∃ W4, W4 = wr.alloc (.cells #[.int .i64 x.kind, .string x.name, .int .i64 x.n, .int .i64 x.a.kind, .int .i64 x.a.n, .string x.a.name, .slice aa na ca, .int .i64 x.b.kind, .int .i64 x.b.n, .string x.b.name, .slice ab nb cb, .slice ad nd cd, .slice ae ne ce, .slice ac nc cc'] 48) := ⟨_, rfl⟩
      have hb4 : Below wr.heap.size wr W4 := by rw [hW4]; exact (Below.refl _ _).alloc (Nat.le_refl _) _
      have hs4 : StAt W4 D 0 x (.slice aa na ca) (.slice ab nb cb) (.slice ad nd cd) (.slice ae ne ce) (.slice ac nc cc') := by rw [hW4, hD]; constructor <;> exact World.cell?_alloc_at _ _ _ _ rfl
      have hf4 : ∀ j, W4.frozen? ⟨D, j, none⟩ = false := fun j => by rw [hW4, hD]; exact World.frozen?_alloc_at _ _ _ _ rfl
      have hz4 : W4.heap.size = D + 1 := by rw [hW4, hD]; simp
      have HW4 := Lib.hid (And.intro hW4 hD)
      have Hs4 := Lib.hid (And.intro hs4 hf4)
      obtain ⟨i0, i1, i2, i3, i4, i5, i6, i7, i8, i9, i10, i11, i12, i13⟩ := hst
      have Hlen := Lib.hid (And.intro hna (And.intro hnb (And.intro hnd (And.intro hne hnc))))
      have Hx := Lib.hid hx
      have Hva := Lib.hid (And.intro hva (And.intro hvb (And.intro hvd (And.intro hve hvc))))
      clear hs4 hf4 hW4 hD hna hnb hnd hne hnc hx hva hvb hvd hve hvc fa fb fd fe fc fk hP
      go_upto_region 6 with (fail)
      rw [← HW4.out.1, ← HW4.out.2]
      clear i0 i1 i2 i3 i4 i5 i6 i7 i8 i9 i10 i11 i12 i13
      obtain ⟨i0, i1, i2, i3, i4, i5, i6, i7, i8, i9, i10, i11, i12, i13⟩ := Hs4.out.1
      simp only [Nat.zero_add] at i0 i1 i2 i3 i4 i5 i6 i7 i8 i9 i10 i11 i12 i13
      obtain ⟨W5, hW5⟩ : ∃ W5, W5 = W4.alloc (.cells #[.int .i64 x.a.kind, .int .i64 x.a.n, .string x.a.name, .slice aa na ca, .int .i64 x.b.kind, .int .i64 x.b.n, .string x.b.name, .slice ab nb cb] 43) := ⟨_, rfl⟩
      have hb5 : Below W4.heap.size W4 W5 := by rw [hW5]; exact (Below.refl _ _).alloc (Nat.le_refl _) _
      have hz5 : D + 1 < W5.heap.size := by rw [hW5, World.size_alloc, hz4]; omega
      have hB5 : Below w0.heap.size w0 W5 := HBr.out.trans ((hb4.trans (hb5.mono hb4.size)).mono HBr.out.size)
      have he5 : ExsIn W5 [x.a, x.b] (.slice (some ⟨D + 1, 0, none⟩) 2 2) := by
        refine two_in (va := .slice aa na ca) (vb := .slice ab nb cb) ?_ ?_ hz5 ?_ ?_
        · rw [hW5]; constructor <;> exact World.cell?_alloc_at _ _ _ _ (by rw [hz4])
        · rw [hW5]; constructor <;> exact World.cell?_alloc_at _ _ _ _ (by rw [hz4])
        · have := ((Hf.out.1 i x Hx.out).later hB5); rw [Hva.out.1, ← Hlen.out.1] at this; exact this
        · have := ((Hf.out.2.1 i x Hx.out).later hB5); rw [Hva.out.2.1, ← Hlen.out.2.1] at this; exact this
      have hT5 : Ex.totals [x.a, x.b] ≤ 4000000 := by
        have h1 := St.totals_take Hx.out
        have h2 := St.totals_le (l := l) (i + 1)
        have h3 := two_tot x
        have h4 := HT.out
        omega
      have H5 := Lib.hid (And.intro hb5 hz5)
      have Hcp := Lib.hid (copyE_any _ _ W5 he5 W5 (Below.refl _ _) hT5)
      have HW5 := Lib.hid hW5
      clear hb5 hz5 hW5 hT5 he5
      go_wp2_with fail
      rw [← HW5.out]
      clear i0 i1 i2 i3 i4 i5 i6 i7 i8 i9 i10 i11 i12 i13
      refine (Hcp.out).mono ?_
      rintro E w6 ⟨v6, rfl, hb6, ho6⟩
      obtain ⟨g6, c6, va6, vb6, m0, m1, rfl, hc6, hg6, hg6', hea6, heb6, r1, r2, r3, hoa, hob⟩ := two_own ho6
      have hs6 := Hs4.out.1.later (H5.out.1.trans (hb6.mono H5.out.1.size)) (by omega)
      obtain ⟨aa6, ca6, hva6, -⟩ := hoa.reads.form
      obtain ⟨ab6, cb6, hvb6, -⟩ := hob.reads.form
      subst hva6 hvb6
      have H6 := Lib.hid (And.intro hb6 (And.intro hoa (And.intro hob (And.intro hea6 heb6))))
      have hf6 : ∀ j, w6.frozen? ⟨D, j, none⟩ = false := fun j => ((H5.out.1.trans (hb6.mono H5.out.1.size)).frozen (p := ⟨D, j, none⟩) (by show D < _; omega)).trans (Hs4.out.2 j)
      have hz6 : D < w6.heap.size := by have := hb6.size; have := H5.out.2; omega
      have hgD : D < g6 := by have := H5.out.2; omega
      have hM6 : Mid wr w6 D x (.slice aa na ca) (.slice ab nb cb) (.slice ad nd cd) (.slice ae ne ce) (.slice ac nc cc') :=
        ⟨(hb4.trans (H5.out.1.mono hb4.size)).trans (hb6.mono (by have := (hb4.trans (H5.out.1.mono hb4.size)).size; omega)), hs6, hf6, by rw [← HW4.out.2]; exact Nat.le_refl _, hz6⟩
      have HM6 := Lib.hid hM6
      have hm0 : D < m0 := by have := H5.out.2; omega
      clear ho6 hb6 hoa hob Hcp HW5 hM6 hs6
      obtain ⟨j0, j1, j2, j3⟩ := hea6
      have hf3 := hf6 3
      have hf4' := hf6 4
      have hf5 := hf6 5
      have hf6' := hf6 6
      obtain ⟨i0, i1, i2, i3, i4, i5, i6, i7, i8, i9, i10, i11, i12, i13⟩ := HM6.out.st
      simp only [Nat.zero_add] at i0 i1 i2 i3 i4 i5 i6 i7 i8 i9 i10 i11 i12 i13 j0 j1 j2 j3
      clear hf6 heb6
      go_upto_region 8 with (fail)
      obtain ⟨W7, hW7⟩ : ∃ w : World, w = (((w6.setCell ⟨D, 3, none⟩ (.int .i64 x.a.kind)).setCell ⟨D, 4, none⟩ (.int .i64 x.a.n)).setCell ⟨D, 5, none⟩ (.string x.a.name)).setCell ⟨D, 6, none⟩ (.slice aa6 x.a.args.length ca6) := ⟨_, rfl⟩
      rw [← hW7]
      have hO7 : Oth (· = D) w6 W7 := by rw [hW7]; exact ((((Oth.refl (· = D) w6).set (p := ⟨D, 3, none⟩) rfl _).set (p := ⟨D, 4, none⟩) rfl _).set (p := ⟨D, 5, none⟩) rfl _).set (p := ⟨D, 6, none⟩) rfl _
      have HM7 : Hid (Mid wr W7 D x (.slice aa6 x.a.args.length ca6) (.slice ab nb cb) (.slice ad nd cd) (.slice ae ne ce) (.slice ac nc cc')) := HM6.out.oth hO7 (fun j => by rw [hW7]; simp only [World.frozen?_setCell]) (by rw [hW7]; exact HM6.out.st.setA _)
      have hz7 : W7.heap.size = w6.heap.size := by rw [hW7]; simp only [size_set]
      have heb7 := H6.out.2.2.2.2.oth hO7 hg6' (by show ¬ g6 = D; omega)
      have HO7 := Lib.hid (And.intro hO7 hz7)
      clear hW7 hO7 hz7 i0 i1 i2 i3 i4 i5 i6 i7 i8 i9 i10 i11 i12 i13 j0 j1 j2 j3 hf3 hf4' hf5 hf6'
      obtain ⟨j0, j1, j2, j3⟩ := heb7
      have hf7 := HM7.out.fr 7
      have hf8 := HM7.out.fr 8
      have hf9 := HM7.out.fr 9
      have hf10 := HM7.out.fr 10
      obtain ⟨i0, i1, i2, i3, i4, i5, i6, i7, i8, i9, i10, i11, i12, i13⟩ := HM7.out.st
      simp only [Nat.zero_add] at i0 i1 i2 i3 i4 i5 i6 i7 i8 i9 i10 i11 i12 i13 j0 j1 j2 j3
      go_upto_region 9 with (fail)
      obtain ⟨W8, hW8⟩ : ∃ w : World, w = (((W7.setCell ⟨D, 7, none⟩ (.int .i64 x.b.kind)).setCell ⟨D, 8, none⟩ (.int .i64 x.b.n)).setCell ⟨D, 9, none⟩ (.string x.b.name)).setCell ⟨D, 10, none⟩ (.slice ab6 x.b.args.length cb6) := ⟨_, rfl⟩
      rw [← hW8]
      have hO8 : Oth (· = D) W7 W8 := by rw [hW8]; exact ((((Oth.refl (· = D) W7).set (p := ⟨D, 7, none⟩) rfl _).set (p := ⟨D, 8, none⟩) rfl _).set (p := ⟨D, 9, none⟩) rfl _).set (p := ⟨D, 10, none⟩) rfl _
      have HM8 : Hid (Mid wr W8 D x (.slice aa6 x.a.args.length ca6) (.slice ab6 x.b.args.length cb6) (.slice ad nd cd) (.slice ae ne ce) (.slice ac nc cc')) := HM7.out.oth hO8 (fun j => by rw [hW8]; simp only [World.frozen?_setCell]) (by rw [hW8]; exact HM7.out.st.setB _)
      have hz8 : W8.heap.size = w6.heap.size := by rw [hW8]; simp only [size_set]; exact HO7.out.2
      have HA8 : Hid (OwnExs W8 m0 m1 x.a.args (.slice aa6 x.a.args.length ca6) ∧ OwnExs W8 m1 W8.heap.size x.b.args (.slice ab6 x.b.args.length cb6)) := by
        have hq : ∀ k, k < w6.heap.size → m0 ≤ k → W8.heap[k]? = w6.heap[k]? := fun k h1 h2 => ((HO7.out.1.trans hO8).block k h1 (by show ¬ k = D; omega))
        rw [hz8]
        exact ⟨H6.out.2.1.apart (by omega) fun k h1 h2 => hq k (by omega) h1, H6.out.2.2.1.apart (by omega) fun k h1 h2 => hq k h2 (by omega)⟩
      have r3' : m1 ≤ W8.heap.size := by omega
      have HB8 : Hid (Below w0.heap.size w0 W8) := HBr.out.trans (HM8.out.below.mono HBr.out.size)
      have HT1 : Hid (x.total ≤ 2000000) := by
        have h1 := St.totals_take Hx.out
        have h2 := St.totals_le (l := l) (i + 1)
        have h4 := HT.out
        show _ ≤ _; omega
      clear hW8 hO8 hz8 i0 i1 i2 i3 i4 i5 i6 i7 i8 i9 i10 i11 i12 i13 j0 j1 j2 j3 hf7 hf8 hf9 hf10 HO7 HM7 HM6 H6 hz6 hg6 hg6' hgD hc6 r3 H5 Hs4
      have Hcd : Hid (RCopyS w0 x.body (.slice ad nd cd)) := by have := Hih.out.1 i x Hx.out; rw [Hva.out.2.2.1, ← Hlen.out.2.2.1] at this; exact this
      have Hce : Hid (RCopyS w0 x.els (.slice ae ne ce)) := by have := Hih.out.2.1 i x Hx.out; rw [Hva.out.2.2.2.1, ← Hlen.out.2.2.2.1] at this; exact this
      obtain ⟨i0, i1, i2, i3, i4, i5, i6, i7, i8, i9, i10, i11, i12, i13⟩ := HM8.out.st
      have hf11 := HM8.out.fr 11
      simp only [Nat.zero_add] at i0 i1 i2 i3 i4 i5 i6 i7 i8 i9 i10 i11 i12 i13
      go_wp2_with fail
      clear i0 i1 i2 i3 i4 i5 i6 i7 i8 i9 i10 i11 i12 i13 hf11
      refine (Hcd.out W8 HB8.out (by have := HT1.out; have := x.total_eq; omega)).mono ?_
      rintro E w9 ⟨v9, rfl, hb9, ho9⟩
      obtain ⟨a9, c9, hv9, -⟩ := ho9.reads.form
      subst hv9
      have HM9 := Lib.hid (HM8.out.later hb9 HM8.out.lt.2)
      have H9 := Lib.hid (And.intro hb9 ho9)
      have q9 := hb9.size
      clear hb9 ho9
      obtain ⟨i0, i1, i2, i3, i4, i5, i6, i7, i8, i9, i10, i11, i12, i13⟩ := HM9.out.st
      have hf11 := HM9.out.fr 11
      simp only [Nat.zero_add] at i0 i1 i2 i3 i4 i5 i6 i7 i8 i9 i10 i11 i12 i13
      go_upto_region 10 with (fail)
      obtain ⟨W10, hW10⟩ : ∃ w : World, w = w9.setCell ⟨D, 11, none⟩ (.slice a9 x.body.length c9) := ⟨_, rfl⟩
      rw [← hW10]
      have hO10 : Oth (· = D) w9 W10 := by rw [hW10]; exact (Oth.refl (· = D) w9).set (p := ⟨D, 11, none⟩) rfl _
      have HM10 : Hid (Mid wr W10 D x (.slice aa6 x.a.args.length ca6) (.slice ab6 x.b.args.length cb6) (.slice a9 x.body.length c9) (.slice ae ne ce) (.slice ac nc cc')) := HM9.out.oth hO10 (fun j => by rw [hW10]; simp only [World.frozen?_setCell]) (by rw [hW10]; exact HM9.out.st.setD _)
      have hz10 : W10.heap.size = w9.heap.size := by rw [hW10]; simp only [size_set]
      obtain ⟨m2, hm2⟩ : ∃ m2, m2 = W8.heap.size := ⟨_, rfl⟩
      have HA10 : Hid (OwnExs W10 m0 m1 x.a.args (.slice aa6 x.a.args.length ca6) ∧ OwnExs W10 m1 m2 x.b.args (.slice ab6 x.b.args.length cb6) ∧ OwnSts W10 m2 W10.heap.size x.body (.slice a9 x.body.length c9)) := by
        rw [hm2, hz10]
        refine ⟨(HA8.out.1.apart (by omega) fun k h1 h2 => H9.out.1.block k (by omega)).apart (by omega) fun k h1 h2 => hO10.block k (by omega) (by show ¬ k = D; omega), (HA8.out.2.apart (by omega) fun k h1 h2 => H9.out.1.block k (by omega)).apart (by omega) fun k h1 h2 => hO10.block k (by omega) (by show ¬ k = D; omega), H9.out.2.apart (by omega) fun k h1 h2 => hO10.block k (by omega) (by show ¬ k = D; omega)⟩
      have HB10 : Hid (Below w0.heap.size w0 W10) := HBr.out.trans (HM10.out.below.mono HBr.out.size)
      have r10 : m1 ≤ m2 ∧ m2 ≤ W10.heap.size := by omega
      clear hW10 hO10 hz10 i0 i1 i2 i3 i4 i5 i6 i7 i8 i9 i10 i11 i12 i13 hf11 hm2 q9 r3' HM9 H9 HA8 HM8 HB8
      obtain ⟨i0, i1, i2, i3, i4, i5, i6, i7, i8, i9, i10, i11, i12, i13⟩ := HM10.out.st
      simp only [Nat.zero_add] at i0 i1 i2 i3 i4 i5 i6 i7 i8 i9 i10 i11 i12 i13
      go_wp2_with fail
      clear i0 i1 i2 i3 i4 i5 i6 i7 i8 i9 i10 i11 i12 i13
      refine (Hce.out W10 HB10.out (by have := HT1.out; have := x.total_eq; omega)).mono ?_
      rintro E w9 ⟨v9, rfl, hb9, ho9⟩
      obtain ⟨ae9, ce9, hv9, -⟩ := ho9.reads.form
      subst hv9
      have HM9 := Lib.hid (HM10.out.later hb9 HM10.out.lt.2)
      have H9 := Lib.hid (And.intro hb9 ho9)
      have q9 := hb9.size
      clear hb9 ho9
      obtain ⟨i0, i1, i2, i3, i4, i5, i6, i7, i8, i9, i10, i11, i12, i13⟩ := HM9.out.st
      have hf12 := HM9.out.fr 12
      simp only [Nat.zero_add] at i0 i1 i2 i3 i4 i5 i6 i7 i8 i9 i10 i11 i12 i13
      go_upto_region 11 with (fail)
      obtain ⟨W12, hW12⟩ : ∃ w : World, w = w9.setCell ⟨D, 12, none⟩ (.slice ae9 x.els.length ce9) := ⟨_, rfl⟩
      rw [← hW12]
      have hO12 : Oth (· = D) w9 W12 := by rw [hW12]; exact (Oth.refl (· = D) w9).set (p := ⟨D, 12, none⟩) rfl _
      have HM12 : Hid (Mid wr W12 D x (.slice aa6 x.a.args.length ca6) (.slice ab6 x.b.args.length cb6) (.slice a9 x.body.length c9) (.slice ae9 x.els.length ce9) (.slice ac nc cc')) := HM9.out.oth hO12 (fun j => by rw [hW12]; simp only [World.frozen?_setCell]) (by rw [hW12]; exact HM9.out.st.setE _)
      have hz12 : W12.heap.size = w9.heap.size := by rw [hW12]; simp only [size_set]
      obtain ⟨m3, hm3⟩ : ∃ m3, m3 = W10.heap.size := ⟨_, rfl⟩
      have HA12 : Hid (OwnExs W12 m0 m1 x.a.args (.slice aa6 x.a.args.length ca6) ∧ OwnExs W12 m1 m2 x.b.args (.slice ab6 x.b.args.length cb6) ∧ OwnSts W12 m2 m3 x.body (.slice a9 x.body.length c9) ∧ OwnSts W12 m3 W12.heap.size x.els (.slice ae9 x.els.length ce9)) := by
        rw [hm3, hz12]
        have hq : ∀ k, k < w9.heap.size → m0 ≤ k → W12.heap[k]? = w9.heap[k]? := fun k h1 h2 => hO12.block k h1 (by show ¬ k = D; omega)
        exact ⟨(HA10.out.1.apart (by omega) fun k h1 h2 => H9.out.1.block k (by omega)).apart (by omega) fun k h1 h2 => hq k (by omega) (by omega), (HA10.out.2.1.apart (by omega) fun k h1 h2 => H9.out.1.block k (by omega)).apart (by omega) fun k h1 h2 => hq k (by omega) (by omega),
          (HA10.out.2.2.apart (by omega) fun k h1 h2 => H9.out.1.block k (by omega)).apart (by omega) fun k h1 h2 => hq k (by omega) (by omega), H9.out.2.apart (by omega) fun k h1 h2 => hq k (by omega) (by omega)⟩
      obtain ⟨S0, hS0⟩ : ∃ s, s = W12.heap.size := ⟨_, rfl⟩
      have hSle : S0 ≤ W12.heap.size ∧ W12.heap.size ≤ S0 := by omega
      have r12 : m2 ≤ m3 ∧ m3 ≤ S0 ∧ D < S0 := by omega
      clear hW12 hO12 hz12 i0 i1 i2 i3 i4 i5 i6 i7 i8 i9 i10 i11 i12 i13 hf12 hm3 q9 HM9 H9 HA10 HM10 HB10
      have hnc1 : nc ≤ 2000000 := by
        have h1 := HT1.out
        have h2 := x.total_eq
        have h3 : ∀ l : List Cs, l.length ≤ Cs.totals l := fun l => by
          induction l with
          | nil => simp
          | cons y l ih => have := y.total_eq; simp only [List.length_cons, Cs.totals]; omega
        have h4 := h3 x.cases
        have := Hlen.out.2.2.2.2
        omega
      obtain ⟨i0', hi0, hz0, hz1, hz2⟩ := info_parts Try.infoCase
      obtain ⟨Wc, hmkc, hownc, hgrc⟩ := run_make_own W12 S0 46 86 i0' _ 2 Try.underlying46 hi0 hz0 hz1 .i64 .i64 (nc + 1) (by rw [hz2]; omega) (by unfold maxLen; omega) hSle.1
      rw [show (((nc + 1 : Nat)) : Int) = (nc : Int) + 1 by omega] at hmkc
      have hbc : Below S0 W12 Wc := (Below.refl _ _).grown hgrc hSle.1 (by intro k e; cases e)
      have hgc : S0 < Wc.heap.size := Nat.lt_of_le_of_lt hSle.1 (World.ownsRow.lt hownc W12.heap.size rfl).2
      have Hc := Lib.hid (And.intro hownc (And.intro hbc hgc))
      have hncc : nc ≤ cc' := by have := Hlen.out.2.2.2.2; omega
      have Hmkc := Lib.hid (And.intro hmkc hS0)
      obtain ⟨i0, i1, i2, i3, i4, i5, i6, i7, i8, i9, i10, i11, i12, i13⟩ := HM12.out.st
      simp only [Nat.zero_add] at i0 i1 i2 i3 i4 i5 i6 i7 i8 i9 i10 i11 i12 i13
      clear hi0 hz0 hz1 hz2 hownc hgrc hbc hS0
      go_upto_region 12 with (fail)
      clear i0 i1 i2 i3 i4 i5 i6 i7 i8 i9 i10 i11 i12 i13 hmkc
      rw [← Hmkc.out.2]
      have hm0c : CsMade Wc S0 x.cases 0 S0 (nc + 1) (fun _ => .bool false) (fun _ => 0) (fun _ => 0) := ⟨⟨Nat.le_refl _, hgc⟩, by have := Hc.out.1; rw [← Hmkc.out.2] at this; simpa [rowsOf] using this, fun j h => absurd h (Nat.not_lt_zero _), fun j k h1 h2 => absurd h2 (Nat.not_lt_zero _), fun j x h => absurd h (Nat.not_lt_zero _)⟩
      have Hm0c := Lib.hid (And.intro hm0c Hc.out.2.1)
      clear hm0c
      obtain ⟨Wo, hWo⟩ : ∃ Wo : World, Wo = wr := ⟨_, rfl⟩
      subst hWo
      go_wp2_with fail
      go_loopg [7, 8] nc (fun gk cv kv wx => ∃ (k g cap : Nat) (vk : Nat → Value) (los his : Nat → Nat), gk = nc - k ∧ cv = .slice (some ⟨g, 0, none⟩) k cap ∧ kv = .int .i64 (k : Int) ∧ k ≤ nc ∧ CsMade wx S0 x.cases k g cap vk los his ∧ Below S0 W12 wx)
      case atStart => exact ⟨0, S0, nc + 1, _, _, _, rfl, rfl, rfl, Nat.zero_le _, Hm0c.out.1, Hm0c.out.2⟩
      case round =>
        obtain ⟨k, g', cp', vk', los, his, hgk, rfl, rfl, hk, hm, hbw⟩ := hrel
        have HMk := Lib.hid (HM12.out.later hbw r12.2.2)
        have Hgk := Lib.hid hgk
        have Hmk := Lib.hid (And.intro hm hbw)
        have hgk' := hm.hg
        have hsz := hbw.size
        have HBk : Hid (Below w0.heap.size w0 wr) := HBr.out.trans (HMk.out.below.mono HBr.out.size)
        clear hgk hm hbw
        by_cases hkn : k < nc
        · obtain ⟨y, hy⟩ : ∃ y, x.cases[k]? = some y := ⟨_, List.getElem?_eq_getElem (by rw [← Hlen.out.2.2.2.2]; exact hkn)⟩
          have hrc := Hf.out.2.2.2.2.1 i x Hx.out
          rw [Hva.out.2.2.2.2, ← Hlen.out.2.2.2.2] at hrc
          obtain ⟨bc, oc, rfl, hbc, hPc⟩ := hrc.at (i := k) hkn
          have hcs := (hPc y hy).later HBk.out hbc
          have hbc' : bc < S0 := by have := HBr.out.size; have := HM12.out.lt; omega
          obtain ⟨ay, cy, hvy, -⟩ := (Hf.out.2.2.2.2.2 i x k y Hx.out hy).form
          obtain ⟨ny, hny⟩ : ∃ n, n = y.body.length := ⟨_, rfl⟩
          rw [hvy, ← hny] at hcs
          have Hck : Hid (RCopyS w0 y.body (.slice ay ny cy)) := by have := Hih.out.2.2 i x k y Hx.out hy; rw [hvy, ← hny] at this; exact this
          obtain ⟨e0, e1⟩ := hcs
          have Hy := Lib.hid hy
          have HTy : Hid (St.totals y.body ≤ 2000000) := by
            have h1 := Cs.totals_take hy
            have h2 := Cs.totals_le (l := x.cases) (k + 1)
            have h3 := y.total_eq
            have h4 := HT1.out
            have h5 := x.total_eq
            show _ ≤ _; omega
          clear hrc hPc hvy hny hy
          obtain ⟨i0, i1, i2, i3, i4, i5, i6, i7, i8, i9, i10, i11, i12, i13⟩ := HMk.out.st
          simp only [Nat.zero_add] at i0 i1 i2 i3 i4 i5 i6 i7 i8 i9 i10 i11 i12 i13
          clear i0 i1 i2 i3 i4 i5 i6 i7 i8 i9 i10 i11 i12
          go_upto_region 15 with (fail)
          refine wp_region_held (S := Below S0 wr.drew) rfl ?_
          change wpAnyH _ _ _ _ (Below S0 wr.drew) _ _ _ wr.drew
          obtain ⟨W0, hW0⟩ : ∃ W0, W0 = wr.drew := ⟨_, rfl⟩
          rw [← hW0]
          have hb0 : Below wr.heap.size wr W0 := by rw [hW0]; exact (Below.refl _ _).drew
          have hs0 : W0.heap.size = wr.heap.size := by rw [hW0]; rfl
          have hB0 : S0 ≤ W0.heap.size := by omega
          have Hfc : Hid (∀ W, Below S0 W0 W → W.cell? ⟨D, 13, none⟩ = some (.slice (some ⟨bc, oc, none⟩) nc cc') ∧ W.cell? ⟨bc, oc + k * 2, none⟩ = some (.int .i64 y.n) ∧ W.cell? ⟨bc, oc + k * 2 + 1, none⟩ = some (.slice ay ny cy)) := fun W hb => by
            have kk := fun j p => fun (h : p < S0) => (hb.cell (p := ⟨p, j, none⟩) (by show p < S0; omega)).trans (hb0.cell (p := ⟨p, j, none⟩) (by show p < _; omega))
            exact ⟨(kk _ D (by omega)).trans i13, (kk _ bc (by omega)).trans e0, (kk _ bc (by omega)).trans e1⟩
          have Hb : Hid (Below S0 W0 W0) := Below.refl _ _
          have H0 := Lib.hid (And.intro hb0 hs0)
          clear hb0 hs0 hW0 i13 e0 e1
          refine wpAnyH_take (i := 0) (by simp only [List.getElem?_toArray, List.getElem?_cons_zero]; rfl) (by kernel_rfl) (by kernel_rfl) (by kernel_rfl) (by intro _ _ _ h; exact h) (Or.inl ⟨by rfl, fun w hw => by (obtain ⟨c0, c1, c2⟩ := Hfc.out w hw; go_simp; try rfl)⟩) Hb.out ?_
          refine wpAnyH_take (i := 1) (by simp only [List.getElem?_toArray, List.getElem?_cons_succ, List.getElem?_cons_zero]; rfl) (by kernel_rfl) (by kernel_rfl) (by kernel_rfl) (by intro _ _ _ h; exact h) (Or.inl ⟨by rfl, fun w hw => by (obtain ⟨c0, c1, c2⟩ := Hfc.out w hw; go_simp; try rfl)⟩) Hb.out ?_
          go_frame
          refine wpAnyH_take (i := 2) (by simp only [List.getElem?_toArray, List.getElem?_cons_succ, List.getElem?_cons_zero]; rfl) (by kernel_rfl) (by kernel_rfl) (by kernel_rfl) (by intro _ _ _ h; exact h) (Or.inl ⟨by rfl, fun w hw => by (obtain ⟨c0, c1, c2⟩ := Hfc.out w hw; go_simp; try rfl)⟩) Hb.out ?_
          refine wpAnyH_take (i := 3) (by simp only [List.getElem?_toArray, List.getElem?_cons_succ, List.getElem?_cons_zero]; rfl) (by kernel_rfl) (by kernel_rfl) (by kernel_rfl) (by intro _ _ _ h; exact h) (Or.inl ⟨by rfl, fun w hw => by (obtain ⟨c0, c1, c2⟩ := Hfc.out w hw; go_simp; try rfl)⟩) Hb.out ?_
          go_frame
          refine wpAnyH_take (i := 4) (by simp only [List.getElem?_toArray, List.getElem?_cons_succ, List.getElem?_cons_zero]; rfl) (by kernel_rfl) (by kernel_rfl) (by kernel_rfl) (by intro _ _ _ h; exact h) (Or.inl ⟨by rfl, fun w hw => by (obtain ⟨c0, c1, c2⟩ := Hfc.out w hw; go_simp; try rfl)⟩) Hb.out ?_
          refine wpAnyH_take (i := 5) (by simp only [List.getElem?_toArray, List.getElem?_cons_succ, List.getElem?_cons_zero]; rfl) (by kernel_rfl) (by kernel_rfl) (by kernel_rfl) (by intro _ _ _ h; exact h) (Or.inl ⟨by rfl, fun w hw => by (obtain ⟨c0, c1, c2⟩ := Hfc.out w hw; go_simp; try rfl)⟩) Hb.out ?_
          go_frame
          refine wpAnyH_take (i := 6) (by simp only [List.getElem?_toArray, List.getElem?_cons_succ, List.getElem?_cons_zero]; rfl) (by kernel_rfl) (by kernel_rfl) (by kernel_rfl) (by intro _ _ _ h; exact h) (Or.inl ⟨by rfl, fun w hw => by (obtain ⟨c0, c1, c2⟩ := Hfc.out w hw; go_simp; try rfl)⟩) Hb.out ?_
          refine wpAnyH_take (i := 7) (by simp only [List.getElem?_toArray, List.getElem?_cons_succ, List.getElem?_cons_zero]; rfl) (by kernel_rfl) (by kernel_rfl) (by kernel_rfl) (by intro _ _ _ h; exact h) (Or.inl ⟨by rfl, fun w hw => by (obtain ⟨c0, c1, c2⟩ := Hfc.out w hw; go_simp; try rfl)⟩) Hb.out ?_
          go_frame
          refine wpAnyH_take (i := 8) (by simp only [List.getElem?_toArray, List.getElem?_cons_succ, List.getElem?_cons_zero]; rfl) (by kernel_rfl) (by kernel_rfl) (by kernel_rfl) (by intro _ _ _ h; exact h) (Or.inl ⟨by rfl, fun w hw => by (obtain ⟨c0, c1, c2⟩ := Hfc.out w hw; go_simp; try rfl)⟩) Hb.out ?_
          refine wpAnyH_take (i := 9) (by simp only [List.getElem?_toArray, List.getElem?_cons_succ, List.getElem?_cons_zero]; rfl) (by kernel_rfl) (by kernel_rfl) (by kernel_rfl) (by intro _ _ _ h; exact h) (Or.inl ⟨by rfl, fun w hw => by (obtain ⟨c0, c1, c2⟩ := Hfc.out w hw; go_simp; try rfl)⟩) Hb.out ?_
          go_frame
          refine wpAnyH_take (i := 10) (by simp only [List.getElem?_toArray, List.getElem?_cons_succ, List.getElem?_cons_zero]; rfl) (by kernel_rfl) (by kernel_rfl) (by kernel_rfl) (by intro _ _ _ h; exact h) (Or.inl ⟨by rfl, fun w hw => by (obtain ⟨c0, c1, c2⟩ := Hfc.out w hw; go_simp; try rfl)⟩) Hb.out ?_
          refine wpAnyH_take (i := 11) (by simp only [List.getElem?_toArray, List.getElem?_cons_succ, List.getElem?_cons_zero]; rfl) (by kernel_rfl) (by kernel_rfl) (by kernel_rfl) (by intro _ _ _ h; exact h) (Or.inl ⟨by rfl, fun w hw => by (obtain ⟨c0, c1, c2⟩ := Hfc.out w hw; go_simp; try rfl)⟩) Hb.out ?_
          go_frame
          refine wpAnyH_take (i := 12) (by simp only [List.getElem?_toArray, List.getElem?_cons_succ, List.getElem?_cons_zero]; rfl) (by kernel_rfl) (by kernel_rfl) (by kernel_rfl) (by intro _ _ _ h; exact h) (Or.inl ⟨by rfl, fun w hw => by (obtain ⟨c0, c1, c2⟩ := Hfc.out w hw; go_simp; try rfl)⟩) Hb.out ?_
          go_frame
          refine wpAnyH_ready (rs := [13]) (by kernel_rfl) (by simp) ?_
          refine AllReadyH.cons rfl (fun K hK => ?_) AllReadyH.nil
          go_simp
          refine (Hck.out W0 (HBk.out.trans (H0.out.1.mono HBk.out.size)) HTy.out).mono ?_
          rintro E w5 ⟨v5, rfl, hb5, ho5⟩
          obtain ⟨a5, c5, hv5, -⟩ := ho5.reads.form
          subst hv5
          have H5 := Lib.hid (And.intro hb5 ho5)
          have Hb5 : Hid (Below S0 W0 w5) := hb5.mono hB0
          refine hK.out _ _ Hb5.out (fun _ => ?_)
          clear hK K hb5 ho5
          refine wpAnyH_take (i := 14) (by simp only [List.getElem?_toArray, List.getElem?_cons_succ, List.getElem?_cons_zero]; rfl) (by kernel_rfl) (by kernel_rfl) (by kernel_rfl) (by intro _ _ _ h; exact h) (Or.inl ⟨by rfl, fun w hw => by (skip; go_simp; try rfl)⟩) Hb5.out ?_
          go_frame
          refine wpAnyH_ready (rs := [15]) (by kernel_rfl) (by simp) ?_
          refine AllReadyH.cons rfl (fun K hK => ?_) AllReadyH.nil
          go_simp
          refine hK.out _ _ (Hb5.out.alloc (Nat.le_trans hB0 Hb5.out.size) _) (fun _ => ?_)
          clear hK K
          try go_frame
          refine wpAnyH_ready (rs := [16]) (by kernel_rfl) (by simp) ?_
          refine AllReadyH.cons rfl (fun K hK => ?_) AllReadyH.nil
          have hk5 : k ≤ 5000000 := by omega
          have hS5 : S0 ≤ w5.heap.size := by have := H0.out.2; have := H5.out.1.size; omega
          have hown5 : w5.ownsRow S0 86 2 (.slice (some ⟨g', 0, none⟩) k cp') k (rowsOf (csRow x.cases vk') k) := ownsRow_at Hmk.out.1.own ((H0.out.1.trans (H5.out.1.mono (by have := H0.out.2; omega))).block g' hgk'.2)
          refine append_cs_wp _ _ rfl S0 (.slice (some ⟨g', 0, none⟩) k cp') k (rowsOf (csRow x.cases vk') k) rfl hown5 y.n a5 y.body.length c5 rfl hk5 hS5 ?_
          intro v7 w7 hown7 hgr7 hfr7
          obtain ⟨g7, c7, rfl, hg7⟩ := row_one hown7 (Nat.succ_pos k)
          have Hr7 : Hid (CsMade w7 S0 x.cases (k + 1) g7 c7 (fun j => if j = k then .slice a5 y.body.length c5 else vk' j) (fun j => if j = k then W0.heap.size else los j) (fun j => if j = k then w5.heap.size else his j) ∧ Below S0 W12 w7 ∧ Below S0 W0 w7) := by
            show _ ∧ _
            have s0 := H0.out.2
            have s5 := H5.out.1.size
            have s7 := hgr7.size
            rw [World.size_alloc] at s7
            have hblk : ∀ q, q < w5.heap.size → q ≠ g' → w7.heap[q]? = w5.heap[q]? := fun q h1 h2 =>
              (hgr7.block q (by rw [World.size_alloc]; omega) (fun e => h2 (by simpa [Value.ownBlock] using e))).trans (((Below.refl w5.heap.size w5).alloc (Nat.le_refl _) _).block q h1)
            have hgg : g7 = g' ∨ w5.heap.size ≤ g7 := by
              by_cases e : g7 = g'
              · exact .inl e
              · refine .inr (Nat.le_of_not_lt fun h => hfr7 g7 (by rw [World.size_alloc]; omega) (fun h2 => e (by simpa [Value.ownBlock] using h2.symm)) rfl)
            refine ⟨Hmk.out.1.next Hy.out (fun q h1 h2 h3 => (hblk q (by omega) h3).trans ((H5.out.1.block q (by omega)).trans (H0.out.1.block q h2))) (lo5 := W0.heap.size) (hi5 := w5.heap.size) (H5.out.2.apart (by omega) fun q h1 h2 => hblk q (by omega) (by omega)) (by omega) s5 (by omega) hown7 ⟨hg7.1, hg7.2.1⟩ hgg, ?_, ?_⟩
            · exact ((Hmk.out.2.trans ((H0.out.1.trans (H5.out.1.mono (by omega))).mono (by omega))).alloc hS5 _).grown hgr7 (by rw [World.size_alloc]; omega) fun q e => by
                simp [Value.ownBlock] at e; omega
            · exact ((H5.out.1.mono (by omega)).alloc hS5 _).grown hgr7 (by rw [World.size_alloc]; omega) fun q e => by
                simp [Value.ownBlock] at e; omega
          clear hown7 hgr7 hfr7 hown5
          refine hK.out _ _ Hr7.out.2.2 (fun _ => ?_)
          clear hK K
          refine wpAnyH_take (i := 17) (by simp only [List.getElem?_toArray, List.getElem?_cons_succ, List.getElem?_cons_zero]; rfl) (by kernel_rfl) (by kernel_rfl) (by kernel_rfl) (by intro _ _ _ h; exact h) (Or.inl ⟨by rfl, fun w hw => by (skip; go_simp; try rfl)⟩) Hr7.out.2.2 ?_
          go_frame
          refine wpAnyH_done (by kernel_rfl) ?_ _
          go_wp2_with fail
          go_roundg (nc - (k + 1))
          case measure => have := Hgk.out; omega
          case rel => exact ⟨k + 1, g7, c7, _, _, _, rfl, rfl, by go_num, hkn, Hr7.out.1, Hr7.out.2.1⟩
        · obtain rfl : nc = k := by omega
          obtain ⟨i0, i1, i2, i3, i4, i5, i6, i7, i8, i9, i10, i11, i12, i13⟩ := HMk.out.st
          simp only [Nat.zero_add] at i0 i1 i2 i3 i4 i5 i6 i7 i8 i9 i10 i11 i12 i13
          clear i0 i1 i2 i3 i4 i5 i6 i7 i8 i9 i10 i11 i12
          have hS5 : S0 ≤ wr.heap.size := by omega
          have hown5 := Hmk.out.1.own
          have hnc5 : nc ≤ 5000000 := by omega
          go_upto_region 17 with (at_builtin; refine append_cs rfl _ _ rfl S0 (.slice (some ⟨g', 0, none⟩) nc cp') nc (rowsOf (csRow x.cases vk') nc) rfl hown5 (-77) none 0 0 rfl hnc5 hS5 ?_; intro v7 w7 hown7 hgr7 hfr7)
          obtain ⟨g7, c7, rfl, hg7⟩ := row_one hown7 (Nat.succ_pos nc)
          have hn7 : nc ≤ c7 := by have := hg7.2.2; omega
          have hb7 : Below S0 W12 w7 := (Hmk.out.2.alloc hS5 _).grown hgr7 (by rw [World.size_alloc]; omega) fun q e => by
                simp [Value.ownBlock] at e; omega
          have HQ7 : Hid ((∀ k, k < x.cases.length → S0 ≤ los k ∧ los k ≤ his k ∧ his k ≤ w7.heap.size ∧ ¬ (los k ≤ g7 ∧ g7 < his k)) ∧ (∀ (k : Nat) y, x.cases[k]? = some y → OwnSts w7 (los k) (his k) y.body (vk' k))) := by
            show _ ∧ _
            have s7 := hgr7.size
            rw [World.size_alloc] at s7
            have hblk : ∀ q, q < wr.heap.size → q ≠ g' → w7.heap[q]? = wr.heap[q]? := fun q h1 h2 =>
              (hgr7.block q (by rw [World.size_alloc]; omega) (fun e => h2 (by simpa [Value.ownBlock] using e))).trans (((Below.refl wr.heap.size wr).alloc (Nat.le_refl _) _).block q h1)
            have hgg : g7 = g' ∨ wr.heap.size ≤ g7 := by
              by_cases e : g7 = g'
              · exact .inl e
              · refine .inr (Nat.le_of_not_lt fun h => hfr7 g7 (by rw [World.size_alloc]; omega) (fun h2 => e (by simpa [Value.ownBlock] using h2.symm)) rfl)
            have hM := Hmk.out.1
            rw [Hlen.out.2.2.2.2] at hM
            exact hM.all (fun q h1 h2 h3 => hblk q h2 h3) (by omega) hgg
          have HM7 := Lib.hid (HM12.out.later hb7 r12.2.2)
          have hg7' : S0 ≤ g7 ∧ g7 < w7.heap.size := ⟨hg7.1, hg7.2.1⟩
          have H7 := Lib.hid (And.intro hown7 hb7)
          have hap : Hid (∀ j k, j < k → k < x.cases.length → his j ≤ los k) := fun j k h1 h2 => Hmk.out.1.apart j k h1 (by rw [Hlen.out.2.2.2.2]; exact h2)
          clear hown7 hgr7 hfr7 hown5 hg7 hb7 i13 Hmk HMk Hgk hgk' hk hkn hS5 hsz
          obtain ⟨i0, i1, i2, i3, i4, i5, i6, i7, i8, i9, i10, i11, i12, i13⟩ := HM7.out.st
          simp only [Nat.zero_add] at i0 i1 i2 i3 i4 i5 i6 i7 i8 i9 i10 i11 i12 i13
          clear i0 i1 i2 i3 i4 i5 i6 i7 i8 i9 i10 i11 i12
          have hf13 := HM7.out.fr 13
          go_upto_region 18 with (fail)
          obtain ⟨W14, hW14⟩ : ∃ w : World, w = w7.setCell ⟨D, 13, none⟩ (.slice (some ⟨g7, 0, none⟩) nc c7) := ⟨_, rfl⟩
          rw [← hW14]
          have hO14 : Oth (· = D) w7 W14 := by rw [hW14]; exact (Oth.refl (· = D) w7).set (p := ⟨D, 13, none⟩) rfl _
          have HM14 : Hid (Mid Wo W14 D x (.slice aa6 x.a.args.length ca6) (.slice ab6 x.b.args.length cb6) (.slice a9 x.body.length c9) (.slice ae9 x.els.length ce9) (.slice (some ⟨g7, 0, none⟩) nc c7)) := HM7.out.oth hO14 (fun j => by rw [hW14]; simp only [World.frozen?_setCell]) (by rw [hW14]; exact HM7.out.st.setC _)
          have hz14 : W14.heap.size = w7.heap.size := by rw [hW14]; simp only [size_set]
          have HP : Hid (OwnParts W14 x (.slice aa6 x.a.args.length ca6) (.slice ab6 x.b.args.length cb6) (.slice a9 x.body.length c9) (.slice ae9 x.els.length ce9) (.slice (some ⟨g7, 0, none⟩) nc c7) vk' (fun k => match k with | 0 => m0 | 1 => m1 | 2 => m2 | 3 => m3 | 4 => S0 | _ => W14.heap.size) g7 c7 los his) := by
            have hq : ∀ k, k < S0 → m0 ≤ k → W14.heap[k]? = W12.heap[k]? := fun k h1 h2 => (hO14.block k (by omega) (by show ¬ k = D; omega)).trans (H7.out.2.block k h1)
            have hq' : ∀ k, k < w7.heap.size → S0 ≤ k → W14.heap[k]? = w7.heap[k]? := fun k h1 h2 => hO14.block k h1 (by show ¬ k = D; omega)
            have e4 : OwnSts W14 m3 S0 x.els (.slice ae9 x.els.length ce9) := by
              have := HA12.out.2.2.2
              rw [← Hmkc.out.2] at this
              exact this.apart (by omega) fun k h1 h2 => hq k h2 (by omega)
            refine ⟨by show m0 ≤ m1 ∧ m1 ≤ m2 ∧ m2 ≤ m3 ∧ m3 ≤ S0 ∧ S0 ≤ W14.heap.size; omega, HA12.out.1.apart (by show m1 ≤ _; omega) fun k h1 h2 => hq k (by have : k < m1 := h2; omega) h1, HA12.out.2.1.apart (by show m2 ≤ _; omega) fun k h1 h2 => hq k (by have : k < m2 := h2; omega) (by have : m1 ≤ k := h1; omega), HA12.out.2.2.1.apart (by show m3 ≤ _; omega) fun k h1 h2 => hq k (by have : k < m3 := h2; omega) (by have : m2 ≤ k := h1; omega), e4, ⟨by rw [Hlen.out.2.2.2.2], by show S0 ≤ g7 ∧ g7 < W14.heap.size; omega, ?_⟩, ?_, hap.out, ?_⟩
            · have := ownsRow_at H7.out.1 (hq' g7 hg7'.2 hg7'.1)
              rw [Hlen.out.2.2.2.2] at this
              exact this
            · intro k hk
              have := HQ7.out.1 k hk
              show S0 ≤ los k ∧ los k ≤ his k ∧ his k ≤ W14.heap.size ∧ ¬ (los k ≤ g7 ∧ g7 < his k)
              omega
            · intro k y hy
              have := HQ7.out.1 k (List.getElem?_eq_some_iff.1 hy).1
              exact (HQ7.out.2 k y hy).apart (by omega) fun q h1 h2 => hq' q (by omega) (by omega)
          have hown14 : W14.ownsRow G 48 14 (.slice (some ⟨g, 0, none⟩) i cp) i (rowsOf (stRow l xa xb xd xe xc) i) := ownsRow_at Hm.out.1.own (HM14.out.below.block g hgr.2)
          have hGo : G ≤ W14.heap.size ∧ Wo.heap.size ≤ W14.heap.size := by have := HM14.out.below.size; omega
          have hi5 : i ≤ 5000000 := by omega
          clear hW14 hO14 hz14 i13 hf13 HQ7 H7 hap HM7
          obtain ⟨i0, i1, i2, i3, i4, i5, i6, i7, i8, i9, i10, i11, i12, i13⟩ := HM14.out.st
          simp only [Nat.zero_add] at i0 i1 i2 i3 i4 i5 i6 i7 i8 i9 i10 i11 i12 i13
          go_upto_region 4 with (at_builtin; refine append_st rfl _ _ rfl G (.slice (some ⟨g, 0, none⟩) i cp) i (rowsOf (stRow l xa xb xd xe xc) i) rfl hown14 x.kind x.n x.a.kind x.a.n x.b.kind x.b.n x.name x.a.name x.b.name aa6 ab6 a9 ae9 (some ⟨g7, 0, none⟩) x.a.args.length x.b.args.length x.body.length x.els.length nc ca6 cb6 c9 ce9 c7 rfl hi5 hGo.1 ?_; intro v15 w15 hown15 hgr15 hfr15)
          obtain ⟨g15, c15, rfl, hg15⟩ := row_one hown15 (Nat.succ_pos i)
          have Hr : Hid (∃ xa xb xd xe xc xk m gc cc lk hk, StMade w15 G l (i + 1) g15 c15 xa xb xd xe xc xk m gc cc lk hk ∧ Below G W w15) := by
            have s15 := hgr15.size
            rw [World.size_alloc] at s15
            have hblk : ∀ q, q < W14.heap.size → q ≠ g → w15.heap[q]? = W14.heap[q]? := fun q h1 h2 =>
              (hgr15.block q (by rw [World.size_alloc]; omega) (fun e => h2 (by simpa [Value.ownBlock] using e))).trans (((Below.refl W14.heap.size W14).alloc (Nat.le_refl _) _).block q h1)
            have hgg : g15 = g ∨ W14.heap.size ≤ g15 := by
              by_cases e : g15 = g
              · exact .inl e
              · refine .inr (Nat.le_of_not_lt fun h => hfr15 g15 (by rw [World.size_alloc]; omega) (fun h2 => e (by simpa [Value.ownBlock] using h2.symm)) rfl)
            have hlt := HM14.out.lt
            refine ⟨_, _, _, _, _, _, _, _, _, _, _, Hm.out.1.next Hx.out (fun q h1 h2 h3 => (hblk q (by omega) h3).trans (HM14.out.below.block q h2)) (HP.out.apart (by show W14.heap.size ≤ _; omega) fun q h1 h2 => hblk q h2 (by have : m0 ≤ q := h1; omega)) (by show Wo.heap.size ≤ m0; omega) (by show W14.heap.size ≤ _; omega) hown15 ⟨hg15.1, hg15.2.1⟩ hgg, ?_⟩
            exact ((Hm.out.2.trans (HM14.out.below.mono (by omega))).alloc hGo.1 _).grown hgr15 (by rw [World.size_alloc]; omega) fun q e => by
                simp [Value.ownBlock] at e; omega
          clear hown15 hgr15 hfr15 hown14 hg15 i0 i1 i2 i3 i4 i5 i6 i7 i8 i9 i10 i11 i12 i13
          go_wp2_with fail
          go_roundg (n - (i + 1))
          case measure => have := Hg.out; omega
          case rel =>
            obtain ⟨xa, xb, xd, xe, xc, xk, m, gc, cc, lk, hk, h1, h2⟩ := Hr.out
            exact ⟨i + 1, g15, c15, xa, xb, xd, xe, xc, xk, m, gc, cc, lk, hk, rfl, rfl, by go_num, hin, h1, h2⟩
      
    · obtain rfl : n = i := by omega
      have hown := Hm.out.1.own
      have hi5 : n ≤ 5000000 := by omega
      have hG6 : G ≤ wr.heap.size := by omega
      go_upto_region 20 with (at_builtin; refine append_st rfl _ _ rfl G (.slice (some ⟨g, 0, none⟩) n cp) n (rowsOf (stRow l xa xb xd xe xc) n) rfl hown (-77) 0 0 0 0 0 ⟨#[]⟩ ⟨#[]⟩ ⟨#[]⟩ none none none none none 0 0 0 0 0 0 0 0 0 0 rfl hi5 hG6 ?_; intro v7 w7 hown7 hgr7 hfr7)
      obtain ⟨g7, c7, rfl, hg7⟩ := row_one hown7 (Nat.succ_pos n)
      have Hres : Hid (Below W.heap.size W w7 ∧ OwnSts w7 W.heap.size w7.heap.size l (.slice (some ⟨g7, 0, none⟩) n c7)) := by
        show _ ∧ _
        obtain rfl : G = W.heap.size := by omega
        have s7 := hgr7.size
        rw [World.size_alloc] at s7
        have hblk : ∀ k, k < wr.heap.size → k ≠ g → w7.heap[k]? = wr.heap[k]? := fun k h1 h2 =>
          (hgr7.block k (by rw [World.size_alloc]; omega) (fun e => h2 (by simpa [Value.ownBlock] using e))).trans (((Below.refl wr.heap.size wr).alloc (Nat.le_refl _) _).block k h1)
        have hgg : g7 = g ∨ wr.heap.size ≤ g7 := by
          by_cases e : g7 = g
          · exact .inl e
          · refine .inr (Nat.le_of_not_lt fun h => hfr7 g7 (by rw [World.size_alloc]; omega) (fun h2 => e (by simpa [Value.ownBlock] using h2.symm)) rfl)
        refine ⟨(Hm.out.2.alloc hG6 _).grown hgr7 (by rw [World.size_alloc]; omega) fun k e => by
            simp [Value.ownBlock] at e; omega, ?_⟩
        have hM := Hm.out.1
        rw [Hn.out] at hown7 hM ⊢
        exact hM.all (fun k _ h2 h3 => hblk k h2 h3) (by omega) hown7 ⟨hg7.1, hg7.2.1⟩ hgg
      have hn7 : n ≤ c7 := by have := hg7.2.2; omega
      clear hown7 hgr7 hfr7 hown
      go_wp2_with fail
      go_ret
      exact ⟨_, rfl, Hres.out.1, Hres.out.2⟩
end Go.Proofs.Ytgcplcffejbniaa
