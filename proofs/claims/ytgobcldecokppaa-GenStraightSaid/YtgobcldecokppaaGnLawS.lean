/- soffitlaw22.GenStraight: the walk. -/
import Derived.Test.YtgobcldecokppaaGnPre
import Derived.Test.YtgobcldecokppaaRgStraight
import Derived.Test.YtgobcldecokppaaRgOver
import Derived.Test.YtgobcldecokppaaRgLift
import Derived.Test.YtgobcldecokppaaGnAwk
import Derived.Test.YtgobcldecokppaaGnSamM
import Derived.IntWalk
/- gen: the code of a function that goes straight on: no jump, no if, no unless; a count and a step for each loop. -/
namespace Go.Proofs.Ytgobcldecokppaa
open Go.RowKit Go.Maps

mutual
/-- How many loops there are. -/
def St.lps : St → Nat
  | .mk k _ _ _ _ body _ _ => if k = 7 then 1 + St.lpss body else 0
def St.lpss : List St → Nat
  | [] => 0
  | x :: l => St.lps x + St.lpss l
end
theorem St.lps_eq (x : St) : x.lps = if x.kind = 7 then 1 + St.lpss x.body else 0 := by cases x; simp only [St.lps, St.kind, St.body]; rfl
/-- No choice, no count, no step. -/
def CalmI (c : List Ins) : Prop := ∀ x ∈ c, ¬ (14 ≤ x.op ∧ x.op ≤ 18)
theorem CalmI.append {c d : List Ins} (h : CalmI c) (g : CalmI d) : CalmI (c ++ d) := fun x hx => by
  rcases List.mem_append.1 hx with hx | hx
  · exact h x hx
  · exact g x hx
theorem CalmI.nil : CalmI [] := fun x hx => by cases hx
theorem CalmI.one {o a b c n : Int} (h : ¬ (14 ≤ o ∧ o ≤ 18)) : CalmI [⟨o, a, b, c, n⟩] := fun x hx => by
  simp at hx; subst hx; exact h
theorem CalmI.cons {o a b c n : Int} {l : List Ins} (h : ¬ (14 ≤ o ∧ o ≤ 18)) (hl : CalmI l) : CalmI (⟨o, a, b, c, n⟩ :: l) := fun x hx => by
  rcases List.mem_cons.1 hx with hx | hx
  · subst hx; exact h
  · exact hl x hx
/-- No jump, no if, no unless; so many counts and steps. -/
structure StrI (c : List Ins) (n : Nat) : Prop where
  nj : ∀ x ∈ c, ¬ (14 ≤ x.op ∧ x.op ≤ 16)
  counts : c.countP (fun x => decide (x.op = 17)) = n
  steps : c.countP (fun x => decide (x.op = 18)) = n
theorem StrI.append {c d : List Ins} {n m : Nat} (h : StrI c n) (g : StrI d m) : StrI (c ++ d) (n + m) := by
  refine ⟨fun x hx => ?_, by rw [List.countP_append, h.counts, g.counts], by rw [List.countP_append, h.steps, g.steps]⟩
  rcases List.mem_append.1 hx with hx | hx
  · exact h.nj x hx
  · exact g.nj x hx
theorem CalmI.str {c : List Ins} (h : CalmI c) : StrI c 0 := by
  refine ⟨fun x hx e => h x hx ⟨e.1, by omega⟩, ?_, ?_⟩
  · rw [List.countP_eq_zero]
    intro x hx e
    have e2 := of_decide_eq_true e
    exact h x hx ⟨by omega, by omega⟩
  · rw [List.countP_eq_zero]
    intro x hx e
    have e2 := of_decide_eq_true e
    exact h x hx ⟨by omega, by omega⟩
theorem StrI.calm {c d : List Ins} {n : Nat} (h : StrI c n) (g : CalmI d) : StrI (c ++ d) n := h.append g.str
theorem gnCall_calm : ∀ (fs : List Gn), (∀ f ∈ fs, ∀ p t, CalmI (f p t)) → ∀ p t, CalmI (gnCall fs p t)
  | [], _, _, _ => CalmI.nil
  | f :: fs, h, p, t => (h f (by simp) p t).append (gnCall_calm fs (fun g hg => h g (by simp [hg])) _ _)
theorem gnTwo_calm (k t : Int) : CalmI (gnTwo k t) := by
  unfold gnTwo
  refine CalmI.append ?_ ?_
  · repeat' split
    all_goals exact CalmI.one (by decide)
  · split
    · exact CalmI.one (by decide)
    · exact CalmI.nil
theorem getD_calm (fs : List Gn) (h : ∀ f ∈ fs, ∀ p t, CalmI (f p t)) (i p : Nat) (t : Int) : CalmI (fs.getD i (fun _ _ => []) p t) := by
  rw [List.getD_eq_getElem?_getD]
  cases e : fs[i]? with
  | none => exact CalmI.nil
  | some f => exact h f (List.mem_of_getElem? e) p t
theorem gnOf_calm (V : GEnv) (F : ByteArray → Int) (k n : Int) (s : ByteArray) (fs : List Gn) (hk : k < 18) (h : ∀ f ∈ fs, ∀ p t, CalmI (f p t)) (p : Nat) (t : Int) : CalmI (gnOf V F k n s fs p t) := by
  unfold gnOf
  simp only
  repeat' split
  · exact CalmI.one (by decide)
  · exact CalmI.one (by decide)
  · exact (getD_calm fs h _ _ _).append (.cons (by decide) (.one (by decide)))
  · exact (gnCall_calm fs h _ _).append (.one (by decide))
  · exact (getD_calm fs h _ _ _).append (.cons (by decide) (.one (by decide)))
  · exact (getD_calm fs h _ _ _).append (.one (by decide))
  · omega
  · omega
  · omega
  · exact ((getD_calm fs h _ _ _).append (getD_calm fs h _ _ _)).append (gnTwo_calm _ _)
mutual
theorem Ex.gn_calm (V : GEnv) (F : ByteArray → Int) : ∀ (x : Ex), x.evr stillQ = true → ∀ p t, CalmI (x.gn V F p t)
  | .mk k n s l, h, p, t => by
    simp only [Ex.evr, Bool.and_eq_true] at h
    have hk : k < 18 := of_decide_eq_true h.1
    simp only [Ex.gn]
    exact gnOf_calm V F k n s _ hk (Ex.gns_calm V F l h.2) p t
theorem Ex.gns_calm (V : GEnv) (F : ByteArray → Int) : ∀ (l : List Ex), Ex.evrs stillQ l = true → ∀ f ∈ Ex.gns V F l, ∀ p t, CalmI (f p t)
  | [], _, f, hf, _, _ => by simp only [Ex.gns] at hf; cases hf
  | x :: l, h, f, hf, p, t => by
    simp only [Ex.evrs, Bool.and_eq_true] at h
    simp only [Ex.gns] at hf
    rcases List.mem_cons.1 hf with hf | hf
    · subst hf; exact Ex.gn_calm V F x h.1 p t
    · exact Ex.gns_calm V F l h.2 f hf p t
end
theorem goOn_true {σ : Type} {r : σ × Bool} {k : σ → σ × Bool} (h : (goOn r k).2 = true) : r.2 = true ∧ (k r.1).2 = true := by
  unfold goOn at h
  split at h
  · rename_i e; exact ⟨e, h⟩
  · rename_i e; exact absurd h e
section
variable {st : Unit → St → Int → Unit × Bool} {lv : Unit → St → Unit} (hst : ∀ x n, (st () x n).2 = true → ¬ (x.kind = 5 ∨ x.kind = 6 ∨ x.kind = 8) ∧ x.a.evr stillQ = true ∧ x.b.evr stillQ = true)
include hst
mutual
theorem St.gn_str (F : ByteArray → Int) : ∀ (x : St) (m : Int), (x.ovr st lv m ()).2 = true → ∀ V wd p n, StrI (St.gn F x V wd p n).code x.lps ∧ (St.gn F x V wd p n).brk = []
  | .mk k s z a b body els cases, m, h, V, wd, p, n => by
    simp only [St.ovr] at h
    obtain ⟨h1, h2⟩ := goOn_true h
    have h3 := (goOn_true h2).1
    obtain ⟨hk, ha, hb⟩ := hst _ _ h1
    have hk : ¬ (k = 5 ∨ k = 6 ∨ k = 8) := hk
    have ha : a.evr stillQ = true := ha
    have hb : b.evr stillQ = true := hb
    simp only [St.gn, St.lps, gnSt]
    split
    · rename_i e
      have ih := fun V wd p n => St.gns_str F body _ h3 V wd p n []
      simp only [(ih _ _ _ _).2, patchAt, List.foldl_nil]
      refine ⟨?_, trivial⟩
      refine ⟨fun x hx => ?_, ?_, ?_⟩
      · simp only [List.mem_append, List.mem_singleton] at hx
        rcases hx with (((hx | hx) | hx) | hx) | hx
        · exact (Ex.gn_calm V F a ha p n).str.nj x hx
        · exact (Ex.gn_calm V F b hb _ _).str.nj x hx
        · subst hx; show ¬ (14 ≤ (17 : Int) ∧ (17 : Int) ≤ 16); decide
        · exact (ih _ _ _ _).1.nj x hx
        · subst hx; show ¬ (14 ≤ (18 : Int) ∧ (18 : Int) ≤ 16); decide
      · simp only [List.countP_append, (Ex.gn_calm V F a ha p n).str.counts, (Ex.gn_calm V F b hb _ _).str.counts, (ih _ _ _ _).1.counts]
        simp
      · simp only [List.countP_append, (Ex.gn_calm V F a ha p n).str.steps, (Ex.gn_calm V F b hb _ _).str.steps, (ih _ _ _ _).1.steps]
        simp; omega
    · split
      · rename_i e; exact absurd (.inr (.inr e)) hk
      split
      · exact ⟨((Ex.gn_calm V F a ha p n).append (.one (by decide))).str, rfl⟩
      split
      · exact ⟨((((Ex.gn_calm V F a ha p n).append (.one (by decide))).append (Ex.gn_calm V F b hb _ _)).append (.one (by decide))).str, rfl⟩
      split
      · rename_i e; exact absurd (.inl e) hk
      split
      · rename_i e; exact absurd (.inr (.inl e)) hk
      split
      · exact ⟨((Ex.gn_calm V F a ha p n).append (.one (by decide))).str, rfl⟩
      · exact ⟨(Ex.gn_calm V F a ha p n).str, rfl⟩
theorem St.gns_str (F : ByteArray → Int) : ∀ (l : List St) (m : Int), (St.ovrs st lv m l ()).2 = true → ∀ V wd p n ns, StrI (St.gns F l V wd p n ns).code (St.lpss l) ∧ (St.gns F l V wd p n ns).brk = []
  | [], m, h, V, wd, p, n, ns => by
    simp only [St.gns, St.lpss]
    exact ⟨CalmI.nil.str, trivial⟩
  | x :: l, m, h, V, wd, p, n, ns => by
    simp only [St.ovrs] at h
    obtain ⟨h1, h2⟩ := goOn_true h
    simp only [St.gns, St.lpss]
    have hx := h1
    rw [St.ovr_eq] at hx
    obtain ⟨hk, ha, hb⟩ := hst _ _ (goOn_true hx).1
    split
    · rename_i e
      have h0 : x.lps = 0 := by rw [St.lps_eq, if_neg (by rw [e]; decide)]
      rw [h0]
      have ih := St.gns_str F l m h2 (V.put x.name ⟨n, 0, 0⟩) wd (p + (x.a.gn V F p n).length) (n + 1) (ns ++ [x.name])
      exact ⟨(Ex.gn_calm V F x.a ha p n).str.append ih.1, ih.2⟩
    split
    · rename_i e
      have h0 : x.lps = 0 := by rw [St.lps_eq, if_neg (by rw [e]; decide)]
      rw [h0, Nat.zero_add]
      exact St.gns_str F l m h2 _ _ _ _ _
    · have i1 := St.gn_str F x m h1 V wd p n
      have i2 := St.gns_str F l m h2 (St.gn F x V wd p n).V (St.gn F x V wd p n).words (p + (St.gn F x V wd p n).code.length) n ns
      exact ⟨i1.1.append i2.1, by rw [i1.2, i2.2]; rfl⟩
end
end
theorem gnFun_str (f : Fn) (params : Bool) (h : f.alone params = true) (F : ByteArray → Int) : StrI (gnFun F f).code (St.lpss f.body) := by
  unfold gnFun
  simp only
  refine ((St.gns_str (st := aloneQ f params) (lv := fun u _ => u) (fun x n hx => ?_) F f.body 0 h _ _ _ _ _).1.calm (.one (by decide))).calm (.one (by decide))
  unfold aloneQ at hx
  simp only [Bool.and_eq_true, Bool.not_eq_true', decide_eq_false_iff_not] at hx
  exact ⟨hx.1, hx.2.2.2⟩
theorem gnAll_at : ∀ (l : List Fn) (i : Nat) (F : ByteArray → Int), (gnAll l i F).2.1 = 0 → ∀ (j : Nat) (f : Fn), l[j]? = some f → ∃ F', (gnAll l i F).1[j]? = some (gnFun F' f)
  | [], _, _, _, j, f, hf => by simp at hf
  | y :: l, i, F, h, j, f, hf => by
    simp only [gnAll] at h ⊢
    by_cases hb : (gnFun F y).bad = 0
    · rw [if_neg (by rw [hb]; decide)] at h ⊢
      cases j with
      | zero => simp at hf; subst hf; exact ⟨F, rfl⟩
      | succ j => obtain ⟨F', h2⟩ := gnAll_at l (i + 1) _ h j f (by simpa using hf); exact ⟨F', by simpa using h2⟩
    · rw [if_pos hb] at h; exact absurd h hb
theorem gnAll_code : ∀ (l : List Fn) (i : Nat) (F : ByteArray → Int), (gnAll l i F).2.1 = 0 → ∀ g ∈ (gnAll l i F).1, g.bad = 0
  | [], _, _, _, g, hg => by simp [gnAll] at hg
  | y :: l, i, F, h, g, hg => by
    simp only [gnAll] at h hg
    by_cases hb : (gnFun F y).bad = 0
    · rw [if_neg (by rw [hb]; decide)] at h hg
      rcases List.mem_cons.1 hg with hg | hg
      · subst hg; exact hb
      · exact gnAll_code l (i + 1) _ h g hg
    · rw [if_pos hb] at h; exact absurd h hb
/-- A straight function's code, in the program's module. -/
theorem gmod_str {p : Pg} {fn : Int} {params : Bool} (hs : p.straight fn params = true) (hf : p.gmod.2.2.1 = 0) : ∃ (f : Fn) (g : GFun), 0 ≤ fn ∧ p.funcs[fn.toNat]? = some f ∧ p.gmod.2.1[fn.toNat]? = some g ∧ p.gmod.2.1.length = p.funcs.length ∧ StrI g.code (St.lpss f.body) ∧ g.code.length ≤ 1024 := by
  unfold Pg.straight at hs
  simp only [Bool.and_eq_true, decide_eq_true_eq] at hs
  obtain ⟨h1, ⟨h2, h3⟩, h4⟩ := hs
  unfold Pg.gmod at hf ⊢
  rw [if_neg (by rw [h1]; decide)] at hf ⊢
  by_cases h5 : (gnAll p.funcs 0 (fun _ => 0)).2.1 = 0
  · rw [if_neg (by rw [h5]; decide)]
    have hlt : fn.toNat < p.funcs.length := by omega
    obtain ⟨F', h6⟩ := gnAll_at p.funcs 0 _ h5 fn.toNat _ (List.getElem?_eq_getElem hlt)
    have ha := ((Pg.str_iff p params fn).1 h4).1
    unfold Pg.aloneAt at ha
    rw [List.getElem?_eq_getElem hlt] at ha
    refine ⟨_, _, h2, List.getElem?_eq_getElem hlt, h6, (gnAll_right _ _ _ h5).2, gnFun_str _ params ha F', ?_⟩
    have hb := gnAll_code p.funcs 0 _ h5 _ (List.mem_of_getElem? h6)
    unfold GFun.bad at hb
    by_cases c : 1024 < (gnFun F' p.funcs[fn.toNat]).code.length
    · rw [if_pos c] at hb
      split at hb
      · omega
      · split at hb <;> omega
    · omega
  · rw [if_pos h5] at hf; exact absurd hf h5
end Go.Proofs.Ytgobcldecokppaa

/- soffitlaw22.loops: how many loops there are. -/
namespace Go.Proofs.Ytgobcldecokppaa
open Go.RowKit Go.Maps

theorem St.lpss_append (l m : List St) : St.lpss (l ++ m) = St.lpss l + St.lpss m := by
  induction l with
  | nil => simp [St.lpss]
  | cons x l ih => simp only [List.cons_append, St.lpss, ih]; omega
theorem St.lpss_next {l : List St} {i : Nat} {x : St} (h : l[i]? = some x) : St.lpss (l.take (i + 1)) = St.lpss (l.take i) + x.lps := by
  rw [take_next h, St.lpss_append]; simp [St.lpss]
mutual
theorem St.lps_le : ∀ x : St, x.lps ≤ x.total
  | .mk k s z a b body els cases => by
    have h1 := St.lpss_le body
    have h2 := St.total_eq (.mk k s z a b body els cases)
    simp only [St.body] at h2
    simp only [St.lps]
    split <;> omega
theorem St.lpss_le : ∀ l : List St, St.lpss l ≤ St.totals l
  | [] => Nat.zero_le _
  | x :: l => by
    have h1 := St.lps_le x
    have h2 := St.lpss_le l
    simp only [St.lpss, St.totals]
    omega
end
set_option maxRecDepth 100000 in
set_option maxHeartbeats 4000000 in
theorem loops_any (w0 : World) (l : List St) (v : Value) (h : StsIn w0 l v) : ∀ W, Below w0.heap.size w0 W → St.totals l ≤ 1000000 → Calls Try.prog 11 #[v] W (Gives (.int .i64 (St.lpss l : Nat)) W) := by
  induction h with
  | mk l v va vb vd ve vc vk h ha hb hd he hc hk ihd ihe ihk =>
  intro W hB htot
  obtain ⟨a, cap, rfl, hncap, hcap⟩ := h.form
  obtain ⟨n, hn⟩ : ∃ n, n = l.length := ⟨_, rfl⟩
  have Hrow : Hid (RowOf w0 (.slice a n cap) l.length 14 (fun b o i => ∀ x, l[i]? = some x → StAt w0 b o x (va i) (vb i) (vd i) (ve i) (vc i))) := by rw [hn]; exact h
  have Hvals : Hid (∀ (i : Nat) x, l[i]? = some x → StVals w0 x (va i) (vb i) (vd i) (ve i) (vc i) (vk i)) := fun i x hx => ⟨ha i x hx, hb i x hx, hd i x hx, he i x hx, hc i x hx, fun j y hy => hk i x j y hx hy⟩
  have Hih := Lib.hid ihd
  rw [← hn]
  rw [← hn] at hncap
  have hn62 : n ≤ 9223372036854775807 := by have : maxLen ≤ 9223372036854775807 := by decide
                                            omega
  obtain ⟨r, hr⟩ : ∃ r, r = St.lpss l := ⟨_, rfl⟩
  rw [← hr]
  have Hn := Lib.hid (And.intro hn (And.intro hr (And.intro hB htot)))
  clear h ha hb hd he hc hk ihd ihe ihk hn hr hB htot hncap
  go_enter Try.func11, Try.ntmps11
  go_wp2_with fail
  go_loopw [3, 8] (fun c i wx => ∃ k : Nat, k ≤ n ∧ i = .int .i64 k ∧ c = .int .i64 (St.lpss (l.take k) : Nat) ∧ Below W.heap.size W wx) (fun _ i _ => n - (intOf i).toNat)
  case atStart => exact ⟨0, Nat.zero_le _, rfl, rfl, Below.refl _ _⟩
  case round =>
    obtain ⟨i, hi, rfl, rfl, hO⟩ := hrel
    have HO := Lib.hid hO
    by_cases hin : i < n
    · obtain ⟨Wr, hWr⟩ : ∃ Wr : World, Wr = wr := ⟨_, rfl⟩
      subst hWr
      obtain ⟨x, hx⟩ : ∃ x, l[i]? = some x := ⟨_, List.getElem?_eq_getElem (by rw [← Hn.out.1]; exact hin)⟩
      obtain ⟨b, off, rfl, hb, hP⟩ := Hrow.out.at (i := i) (by rw [← Hn.out.1]; exact hin)
      have hB0 : Below w0.heap.size w0 Wr := Hn.out.2.2.1.trans (hO.mono Hn.out.2.2.1.size)
      have hst := (hP x hx).later hB0 hb
      have hvals := Hvals.out i x hx
      obtain ⟨aa, ca, hva, -⟩ := hvals.a.form
      obtain ⟨ab, cb, hvb, -⟩ := hvals.b.form
      obtain ⟨ad, cd, hvd, -⟩ := hvals.d.form
      obtain ⟨ae, ce, hve, -⟩ := hvals.e.form
      obtain ⟨ac, cc, hvc, hcc1, hcc2⟩ := hvals.c.form
      have fd := Hih.out i x hx
      obtain ⟨na, hna⟩ : ∃ n, n = x.a.args.length := ⟨_, rfl⟩
      obtain ⟨nb, hnb⟩ : ∃ n, n = x.b.args.length := ⟨_, rfl⟩
      obtain ⟨nd, hnd⟩ : ∃ n, n = x.body.length := ⟨_, rfl⟩
      obtain ⟨ne, hne⟩ : ∃ n, n = x.els.length := ⟨_, rfl⟩
      obtain ⟨nc, hnc⟩ : ∃ n, n = x.cases.length := ⟨_, rfl⟩
      rw [hva, hvb, hvd, hve, hvc, ← hna, ← hnb, ← hnd, ← hne, ← hnc] at hst
      rw [hvd, ← hnd] at fd
      obtain ⟨W2, hW2⟩ : ∃ W2, W2 = Wr.alloc (.cells #[.int .i64 x.kind, .string x.name, .int .i64 x.n, .int .i64 x.a.kind, .int .i64 x.a.n, .string x.a.name, .slice aa na ca, .int .i64 x.b.kind, .int .i64 x.b.n, .string x.b.name, .slice ab nb cb, .slice ad nd cd, .slice ae ne ce, .slice ac nc cc] 57) := ⟨_, rfl⟩
      obtain ⟨D, hD⟩ : ∃ D, D = Wr.heap.size := ⟨_, rfl⟩
      have hb2 : Below Wr.heap.size Wr W2 := by rw [hW2]; exact (Below.refl _ _).alloc (Nat.le_refl _) _
      have hs2 : StAt W2 D 0 x (.slice aa na ca) (.slice ab nb cb) (.slice ad nd cd) (.slice ae ne ce) (.slice ac nc cc) := by rw [hW2, hD]; exact StAt.box _ _ _ _ _ _ _ _
      have hO2 : Below W.heap.size W W2 := hO.trans (hb2.mono hO.size)
      have hB2 : Below w0.heap.size w0 W2 := hB0.trans (hb2.mono hB0.size)
      have htx := St.totals_take hx
      have htl := St.totals_le (l := l) (i + 1)
      have hte := St.total_eq x
      have hle := St.lpss_le (l.take (i + 1))
      have hlb := St.lpss_le x.body
      have hnx := St.lpss_next hx
      have hxl := St.lps_eq x
      have htt := Hn.out.2.2.2
      have H2 := Lib.hid hO2
      have Hcall := Lib.hid (fd W2 hB2 (by omega))
      have HW2 := Lib.hid (And.intro hW2 hD)
      obtain ⟨c0, hc0⟩ : ∃ c0, c0 = St.lpss (l.take i) := ⟨_, rfl⟩
      obtain ⟨b0, hb0⟩ : ∃ b0, b0 = St.lpss x.body := ⟨_, rfl⟩
      rw [← hb0] at Hcall hxl hlb
      rw [← hc0] at hnx ⊢
      have hs1 : c0 + x.lps ≤ 1000000 := by omega
      have hs3 : b0 ≤ 1000000 := by omega
      have Hnx := Lib.hid (And.intro hnx hxl)
      have Hs1 := Lib.hid hs1
      have hs4 : c0 ≤ 1000000 := by omega
      clear hx hP hB0 hvals hva hvb hvd hve hvc hcc1 hcc2 fd hna hnb hnd hne hnc hW2 hD hb2 hO hO2 hB2 htx htl hte hle hlb hnx hxl htt hc0 hb0 hs1
      obtain ⟨i0, i1, i2, i3, i4, i5, i6, i7, i8, i9, i10, i11, i12, i13⟩ := hst
      go_upto_region 5 with (fail)
      rw [← HW2.out.1, ← HW2.out.2]
      clear i0 i1 i2 i3 i4 i5 i6 i7 i8 i9 i10 i11 i12 i13
      obtain ⟨i0, i1, i2, i3, i4, i5, i6, i7, i8, i9, i10, i11, i12, i13⟩ := hs2
      simp only [Nat.zero_add] at i0 i1 i2 i3 i4 i5 i6 i7 i8 i9 i10 i11 i12 i13
      obtain ⟨kk, hkk⟩ : ∃ kk, kk = x.kind := ⟨_, rfl⟩
      rw [← hkk] at i0
      rw [← hkk] at Hnx
      by_cases h7 : kk = 7
      · have hsum : St.lpss (l.take (i + 1)) = c0 + (1 + b0) := by rw [Hnx.out.1, Hnx.out.2, if_pos h7]
        have hs5 : c0 + (1 + b0) ≤ 1000000 := by have := Hs1.out; rw [Hnx.out.2, if_pos h7] at this; exact this
        have Hsum := Lib.hid hsum
        subst h7
        clear hsum hkk
        go_wp2_with fail
        refine Hcall.out.mono ?_
        rintro e w3 ⟨rfl, hb3⟩
        have H3 := Lib.hid (H2.out.trans (hb3.mono H2.out.size))
        clear hb3
        go_wp2_with fail
        go_roundw
        case rel => exact ⟨i + 1, by omega, by go_num, by rw [Hsum.out]; go_num, H3.out⟩
        case measure => simp [intOf]; omega
      · have hsum : St.lpss (l.take (i + 1)) = c0 := by rw [Hnx.out.1, Hnx.out.2, if_neg h7]; rfl
        have Hsum := Lib.hid hsum
        clear hsum hkk
        go_wp2_with fail
        go_roundw
        case rel => exact ⟨i + 1, by omega, by go_num, by rw [Hsum.out], H2.out⟩
        case measure => simp [intOf]; omega
    · obtain rfl : i = n := by omega
      have hr : St.lpss (l.take i) = r := by rw [Hn.out.1, List.take_length, ← Hn.out.2.1]
      rw [hr]
      clear hr hO hin hi
      go_wp2_with fail
      go_ret
      exact ⟨rfl, HO.out⟩
end Go.Proofs.Ytgobcldecokppaa

namespace Go.Proofs.Ytgobcldecokppaa
open Go.RowKit Go.Maps

theorem gmod_none {p : Pg} (h : p.gmod.2.2.1 ≠ 0) : p.gmod.2.1 = [] := by
  unfold Pg.gmod at h ⊢
  by_cases h0 : p.rfault.1 = 0
  · rw [if_neg (by rw [h0]; decide)] at h ⊢
    by_cases h5 : (gnAll p.funcs 0 (fun _ => 0)).2.1 = 0
    · rw [if_neg (by rw [h5]; decide)] at h; exact absurd h5 h
    · rw [if_pos h5]
  · rw [if_pos h0]
theorem cnt_next {l : List Ins} {j : Nat} {x : Ins} (h : l[j]? = some x) (o : Int) : (l.take (j + 1)).countP (fun y => decide (y.op = o)) = (l.take j).countP (fun y => decide (y.op = o)) + if x.op = o then 1 else 0 := by
  rw [take_next h, List.countP_append]
  simp only [List.countP_cons, List.countP_nil, decide_eq_true_eq]
  split <;> simp
set_option maxRecDepth 100000 in
set_option maxHeartbeats 8000000 in
theorem gnLawStraight_any (W : World) (p : Pg) (vw vf : Value) (vp vb : Nat → Value) (k : Int) (h : PgIn W p vw vf vp vb) (_ : p.near) (hrg : p.rng) (hk : in64 k) : Calls Try.prog 5 #[pgV vw vf, .int .i64 k] W (Gives (.bool true) W) := by
  obtain ⟨aw, cw, rfl, -⟩ := h.widen.row.form
  obtain ⟨a, cap, rfl, hc1, hc2⟩ := h.funcs.row.form
  obtain ⟨n, hn⟩ : ∃ n, n = p.funcs.length := ⟨_, rfl⟩
  obtain ⟨m, hm⟩ : ∃ m, m = p.widen.length := ⟨_, rfl⟩
  rw [← hn, ← hm] at h
  rw [← hn, ← hm]
  rw [← hn] at hc1
  have hn62 : cap ≤ 9223372036854775807 := by have : maxLen ≤ 9223372036854775807 := by decide
                                              omega
  have HP := Lib.hid h
  have Hrg := Lib.hid hrg
  have hk2 : -9223372036854775808 ≤ k ∧ k ≤ 9223372036854775807 := hk
  have Hk := Lib.hid hk
  have Hl := Lib.hid (And.intro hm hn)
  obtain ⟨W1, hW1⟩ : ∃ W1, W1 = W.alloc (.cells #[.slice aw m cw, .slice a n cap] 26) := ⟨_, rfl⟩
  obtain ⟨B, hB⟩ : ∃ B, B = W.heap.size := ⟨_, rfl⟩
  have hb1 : Below W.heap.size W W1 := by rw [hW1]; exact (Below.refl _ _).alloc (Nat.le_refl _) _
  have c0 : W1.cell? ⟨B, 0, none⟩ = some (.slice aw m cw) := by rw [hW1, hB]; exact World.cell?_alloc_at _ _ _ _ rfl
  have c1 : W1.cell? ⟨B, 1, none⟩ = some (.slice a n cap) := by rw [hW1, hB]; exact World.cell?_alloc_at _ _ _ _ rfl
  have qB : B < W1.heap.size := by rw [hW1, hB]; simp
  have HW1 := Lib.hid (And.intro hW1 hB)
  have H1 := Lib.hid (And.intro hb1 (And.intro c0 c1))
  unfold pgV
  clear h hn hm hrg hk hW1 hB hb1 c0 c1
  go_enter Try.func5, Try.ntmps5
  go_upto_region 1 with (fail)
  rw [← HW1.out.1, ← HW1.out.2]
  go_wp2_with fail
  refine (gnAwake_any W1).mono ?_
  rintro e w2 ⟨rfl, hb2⟩
  have d0 := (hb2.cell (p := ⟨B, 0, none⟩) qB).trans H1.out.2.1
  have d1 := (hb2.cell (p := ⟨B, 1, none⟩) qB).trans H1.out.2.2
  have H2 := Lib.hid (And.intro (H1.out.1.trans (hb2.mono H1.out.1.size)) (And.intro d0 d1))
  have q2 : B < w2.heap.size := Nat.lt_of_lt_of_le qB hb2.size
  clear hb2
  have hcall := gmod_any p (.slice aw m cw) (.slice a n cap) vp vb w2 (HP.out.later H2.out.1) Hrg.out
  obtain ⟨t, ht⟩ : ∃ t, t = p.gmod.2.2 := ⟨_, rfl⟩
  rw [← ht] at hcall
  have Ht := Lib.hid ht
  obtain ⟨ea, eb, ec⟩ := t
  unfold pgV fltV at hcall
  simp only at hcall
  have Hcall := Lib.hid hcall
  clear hcall ht
  go_wp2_with fail
  refine Hcall.out.mono ?_
  rintro E w3 ⟨vt, vm, rfl, hb3, l, hl, hG⟩
  obtain ⟨-, ta, tc, rfl, -⟩ := SliceIn.of_owns hG.thr
  obtain ⟨-, ma, mc, rfl, hmc, hmx, -⟩ := SliceIn.of_owns hG.row
  obtain ⟨tn, htn⟩ : ∃ tn, tn = p.gmod.1.length := ⟨_, rfl⟩
  obtain ⟨mn, hmn⟩ : ∃ mn, mn = l.length := ⟨_, rfl⟩
  have hG := hG.reads
  rw [← htn, ← hmn] at hG ⊢
  rw [← hmn] at hmc
  have hm62 : mn ≤ 9223372036854775807 := by have : maxLen ≤ 9223372036854775807 := by decide
                                             omega
  obtain ⟨V1, hV1⟩ : ∃ w : World, w = w3.alloc (.cells #[.slice ta tn tc, .slice ma mn mc] 29) := ⟨_, rfl⟩
  obtain ⟨V2, hV2⟩ : ∃ w : World, w = V1.alloc (.cells #[.int .i64 ea, .int .i64 eb, .int .i64 ec] 32) := ⟨_, rfl⟩
  obtain ⟨M, hM⟩ : ∃ M, M = w3.heap.size := ⟨_, rfl⟩
  have z1 : V1.heap.size = M + 1 := by rw [hV1, hM]; simp
  have z2 : V2.heap.size = M + 2 := by rw [hV2]; simp [z1]
  have a1 : Below w3.heap.size w3 V1 := by rw [hV1]; exact (Below.refl _ _).alloc (Nat.le_refl _) _
  have a2 : Below V1.heap.size V1 V2 := by rw [hV2]; exact (Below.refl _ _).alloc (Nat.le_refl _) _
  have a12 : Below w3.heap.size w3 V2 := a1.trans (a2.mono a1.size)
  have b23 : Below w2.heap.size w2 V2 := hb3.trans (a12.mono hb3.size)
  have g1 : V2.cell? ⟨M, 1, none⟩ = some (.slice ma mn mc) := by
    have h0 : V1.cell? ⟨M, 1, none⟩ = some (.slice ma mn mc) := by rw [hV1]; exact World.cell?_alloc_at _ _ _ _ hM
    exact (a2.cell (p := ⟨M, 1, none⟩) (by show M < _; omega)).trans h0
  have f0 : V2.cell? ⟨M + 1, 0, none⟩ = some (.int .i64 ea) := by rw [hV2]; exact World.cell?_alloc_at _ _ _ _ z1.symm
  have e0 := (b23.cell (p := ⟨B, 0, none⟩) q2).trans d0
  have e1 := (b23.cell (p := ⟨B, 1, none⟩) q2).trans d1
  have H3 := Lib.hid (And.intro (H2.out.1.trans (b23.mono H2.out.1.size)) (And.intro (hG.later a12) (And.intro hl hmn)))
  have HV := Lib.hid (And.intro hM (And.intro hV1 hV2))
  clear a1 a2 a12 b23 hV1 hV2 hM hb3 hG hl hmn htn d0 d1 Hcall z1 z2 hmc
  go_upto_region 4 with (fail)
  rw [← HV.out.1, ← HV.out.2.1, ← HV.out.2.2]
  have hcall := rgStraight_any p (.slice aw m cw) (.slice a n cap) vp vb k true V2 (HP.out.later H3.out.1) Hrg.out Hk.out
  obtain ⟨st, hst⟩ : ∃ st, st = p.straight k true := ⟨_, rfl⟩
  rw [← hst] at hcall
  unfold pgV at hcall
  have Hcall := Lib.hid hcall
  have Hst := Lib.hid hst
  clear hcall hst
  go_wp2_with fail
  refine Hcall.out.mono ?_
  rintro e w4 ⟨rfl, hb4⟩
  have i0 := (hb4.cell (p := ⟨B, 0, none⟩) (block_lt_of_cell e0)).trans e0
  have i1 := (hb4.cell (p := ⟨B, 1, none⟩) (block_lt_of_cell e1)).trans e1
  have j1 := (hb4.cell (p := ⟨M, 1, none⟩) (block_lt_of_cell g1)).trans g1
  have j0 := (hb4.cell (p := ⟨M + 1, 0, none⟩) (block_lt_of_cell f0)).trans f0
  have H4 := Lib.hid (And.intro (H3.out.1.trans (hb4.mono H3.out.1.size)) (H3.out.2.1.later hb4))
  clear hb4 e0 e1 g1 f0 Hcall
  by_cases hgo : st = true ∧ ea = 0
  · obtain ⟨rfl, rfl⟩ := hgo
    obtain ⟨f, g, h1, h2, h3, h4, h5, h6⟩ := gmod_str (p := p) (fn := k) (params := true) Hst.out.symm (by rw [← Ht.out])
    obtain ⟨kn, rfl⟩ : ∃ kn : Nat, k = (kn : Int) := ⟨k.toNat, by omega⟩
    rw [Int.toNat_natCast] at h2 h3
    have hmn : mn = n := by
      have e := congrArg List.length H3.out.2.2.1
      rw [List.length_map, ← H3.out.2.2.2, h4, ← Hl.out.2] at e
      exact e
    have hkn : kn < mn := by rw [hmn, Hl.out.2]; exact (List.getElem?_eq_some_iff.1 h2).1
    obtain ⟨x, hx, hxg⟩ : ∃ x, l[kn]? = some x ∧ x.g = g := by
      have e := h3
      rw [← H3.out.2.2.1, List.getElem?_map] at e
      cases hx : l[kn]? with
      | none => rw [hx] at e; cases e
      | some x => rw [hx] at e; exact ⟨x, rfl, by simpa using e⟩
    obtain ⟨b3, o3, hma, -, -, -, -, -, x4⟩ := gr_cell H4.out.2.row hx (by rw [← H3.out.2.2.2]; exact hkn)
    subst hma
    have hco := (H4.out.2.each x (List.mem_of_getElem? hx)).2
    rw [hxg] at hco
    obtain ⟨-, ca, cc, hvc, hcc, hcx, -⟩ := id hco
    rw [hvc] at hco x4
    have hst5 := h5
    have hlen := h6
    have hpf := (Pg.fault_of_rfault (p := p) (by
      have e := Hst.out.symm
      unfold Pg.straight at e
      simp only [Bool.and_eq_true, decide_eq_true_eq] at e
      exact e.1)).1
    have hfine := fineFn_of (HP.out.later H4.out.1) hpf Hrg.out h2
    obtain ⟨b5, o5, hfa, hb5, hPf⟩ := (HP.out.later H4.out.1).funcs.row.at (i := kn) (by rw [← Hl.out.2, ← hmn]; exact hkn)
    subst hfa
    have hfc := (hPf f h2).c2
    obtain ⟨ab, cb, hvb, -⟩ := hfine.body.form
    have hbody := hfine.body
    rw [hvb] at hbody hfc
    obtain ⟨nb, hnb⟩ : ∃ nb, nb = f.body.length := ⟨_, rfl⟩
    rw [← hnb] at hbody hfc
    have htot : St.totals f.body ≤ 1000000 := by have := hfine.good.total; omega
    have Hloops : Hid (∀ W', Below w4.heap.size w4 W' → Calls Try.prog 11 #[.slice ab nb cb] W' (Gives (.int .i64 (St.lpss f.body : Nat)) W')) := fun W' hW' => loops_any w4 f.body _ hbody W' hW' htot
    obtain ⟨nl, hnl⟩ : ∃ nl, nl = St.lpss f.body := ⟨_, rfl⟩
    rw [← hnl] at Hloops hst5
    obtain ⟨nc, hnc⟩ : ∃ nc, nc = g.code.length := ⟨_, rfl⟩
    rw [← hnc] at hco x4 hlen
    have hq : kn < n := by omega
    have Hcode := Lib.hid (And.intro hco (And.intro hst5 hnc))
    clear hvc hvb hfine hPf hx hxg h1 h2 h3 h4 h5 h6 hpf hbody htot hnb hnl hnc hco hst5 hmx hcc hcx
    go_wp2_with fail
    go_loopw [7, 8, 49] (fun c s i wx => ∃ j : Nat, j ≤ nc ∧ i = .int .i64 j ∧ c = .int .i64 ((g.code.take j).countP (fun y => decide (y.op = 17)) : Nat) ∧ s = .int .i64 ((g.code.take j).countP (fun y => decide (y.op = 18)) : Nat) ∧ Below w4.heap.size w4 wx) (fun _ _ i _ => nc - (intOf i).toNat)
    case atStart => exact ⟨0, Nat.zero_le _, rfl, rfl, rfl, Below.refl _ _⟩
    case round =>
      obtain ⟨j, hj, rfl, rfl, rfl, hO⟩ := hrel
      by_cases hjn : j < nc
      · obtain ⟨Wr, hWr⟩ : ∃ Wr : World, Wr = wr := ⟨_, rfl⟩
        subst hWr
        have hjl : j < g.code.length := by rw [← Hcode.out.2.2]; exact hjn
        have hcr : CodeIn Wr (.slice ca nc cc) g.code := SliceIn.later Hcode.out.1 hO
        obtain ⟨b6, o6, rfl, -, y0, y1, y2, y3, y4⟩ := CodeIn.cellg hcr hjl
        have hnj := Hcode.out.2.1.nj _ (List.getElem_mem hjl)
        have n17 := cnt_next (List.getElem?_eq_getElem hjl) 17
        have n18 := cnt_next (List.getElem?_eq_getElem hjl) 18
        obtain ⟨c0, hc0⟩ : ∃ c0, c0 = (g.code.take j).countP (fun y => decide (y.op = 17)) := ⟨_, rfl⟩
        obtain ⟨s0, hs0⟩ : ∃ s0, s0 = (g.code.take j).countP (fun y => decide (y.op = 18)) := ⟨_, rfl⟩
        have l1 : c0 ≤ 1024 := by
          have e1 : (g.code.take j).countP (fun y => decide (y.op = 17)) ≤ (g.code.take j).length := List.countP_le_length
          rw [List.length_take] at e1; omega
        have l2 : s0 ≤ 1024 := by
          have e1 : (g.code.take j).countP (fun y => decide (y.op = 18)) ≤ (g.code.take j).length := List.countP_le_length
          rw [List.length_take] at e1; omega
        rw [← hc0] at n17 ⊢
        rw [← hs0] at n18 ⊢
        have HN := Lib.hid (And.intro n17 n18)
        generalize g.code[j] = z at y0 y1 y2 y3 y4 hnj HN
        obtain ⟨z0, z1, z2, z3, z4⟩ := z
        simp only at y0 y1 y2 y3 y4 hnj HN
        obtain ⟨V3, hV3⟩ : ∃ V3 : World, V3 = Wr.alloc (.cells #[.int .i64 z0, .int .i64 z1, .int .i64 z2, .int .i64 z3, .int .i64 z4] 44) := ⟨_, rfl⟩
        obtain ⟨D, hD⟩ : ∃ D, D = Wr.heap.size := ⟨_, rfl⟩
        have hb3 : Below Wr.heap.size Wr V3 := by rw [hV3]; exact (Below.refl _ _).alloc (Nat.le_refl _) _
        have k0 : V3.cell? ⟨D, 0, none⟩ = some (.int .i64 z0) := by rw [hV3]; exact World.cell?_alloc_at _ _ _ _ hD
        have HV3 := Lib.hid (And.intro hD (And.intro hV3 (hO.trans (hb3.mono hO.size))))
        clear n17 n18 hc0 hs0 hcr hjl hO hb3 hV3 hD
        go_upto_region 12 with (fail)
        rw [← HV3.out.1, ← HV3.out.2.1]
        clear y0 y1 y2 y3 y4
        by_cases h17 : z0 = 17
        · subst h17
          go_wp2_with fail
          go_roundw
          case rel => exact ⟨j + 1, by omega, by go_num, by rw [HN.out.1]; go_num, by rw [HN.out.2]; go_num, HV3.out.2.2⟩
          case measure => simp [intOf]; omega
        · by_cases h18 : z0 = 18
          · subst h18
            go_wp2_with fail
            go_roundw
            case rel => exact ⟨j + 1, by omega, by go_num, by rw [HN.out.1]; go_num, by rw [HN.out.2]; go_num, HV3.out.2.2⟩
            case measure => simp [intOf]; omega
          · have h14 : z0 ≠ 14 := by omega
            have h15 : z0 ≠ 15 := by omega
            have h16 : z0 ≠ 16 := by omega
            go_wp2_with fail
            go_roundw
            case rel => exact ⟨j + 1, by omega, by go_num, by rw [HN.out.1, if_neg h17]; go_num, by rw [HN.out.2, if_neg h18]; go_num, HV3.out.2.2⟩
            case measure => simp [intOf]; omega
      · obtain rfl : j = nc := by omega
        have e17 : (g.code.take j).countP (fun y => decide (y.op = 17)) = nl := by rw [Hcode.out.2.2, List.take_length]; exact Hcode.out.2.1.counts
        have e18 : (g.code.take j).countP (fun y => decide (y.op = 18)) = nl := by rw [Hcode.out.2.2, List.take_length]; exact Hcode.out.2.1.steps
        rw [e17, e18]
        have i1' := (hO.cell (p := ⟨B, 1, none⟩) (block_lt_of_cell i1)).trans i1
        have x5 := (hO.cell (p := ⟨b5, o5 + kn * 3 + 2, none⟩) hb5).trans hfc
        have Hc := Lib.hid (Hloops.out wr hO)
        have HO := Lib.hid (H4.out.1.trans (hO.mono H4.out.1.size))
        clear hj hjn e17 e18 hO i1 hfc x4 j1 j0 i0
        go_wp2_with fail
        refine Hc.out.mono ?_
        rintro e w6 ⟨rfl, hb6⟩
        have H6 := Lib.hid (HO.out.trans (hb6.mono HO.out.size))
        clear hb6
        go_wp2_with fail
        go_ret
        exact ⟨rfl, H6.out⟩
  · have hea : ea = 0 ∨ (mn = 0 ∧ ea ≠ 0) := by
      by_cases e : ea = 0
      · exact .inl e
      · refine .inr ⟨?_, e⟩
        have h1 := gmod_none (p := p) (by rw [← Ht.out]; exact e)
        rw [H3.out.2.2.2, ← List.length_map (f := GR.g), H3.out.2.2.1, h1]; rfl
    rcases hea with rfl | ⟨rfl, hea⟩
    · have hs : st = false := by
        cases st
        · rfl
        · exact absurd ⟨rfl, rfl⟩ hgo
      subst hs
      clear hgo
      go_wp2_with fail
      go_ret
      exact ⟨rfl, H4.out.1⟩
    · cases st
      · go_wp2_with fail
        go_ret
        exact ⟨rfl, H4.out.1⟩
      · go_wp2_with fail
        go_ret
        exact ⟨rfl, H4.out.1⟩
end Go.Proofs.Ytgobcldecokppaa
