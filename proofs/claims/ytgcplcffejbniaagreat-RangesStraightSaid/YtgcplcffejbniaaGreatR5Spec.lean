/- R5's look at ranges, as a plain law: where names are right it is what ranges.Check does. -/
import Derived.Test.YtgcplcffejbniaaGreatR5Head
namespace Go.Proofs.YtgcplcffejbniaaGreat
open Go.RowKit Go.Maps

/-- What is known within a statement. -/
def St.nin5 (K : Known) (x : St) : Known := if x.kind = 7 then K ++ [(x.name, 4)] else x.nadd K
mutual
/-- How many statements R5 meets up to the first that is wrong, and what is wrong. -/
def St.r5chk (K : Known) (F : List Fn) : St → Nat × Int
  | .mk k s n a b body els cases => after (1, St.h5 K F (.mk k s n a b body els cases))
      (after (St.r5chks (St.nin5 K (.mk k s n a b body els cases)) F body) (after (Cs.r5chks (St.nin5 K (.mk k s n a b body els cases)) F cases) (St.r5chks (St.nin5 K (.mk k s n a b body els cases)) F els)))
def St.r5chks (K : Known) (F : List Fn) : List St → Nat × Int
  | [] => (0, 0)
  | x :: l => after (St.r5chk K F x) (St.r5chks (x.nadd K) F l)
def Cs.r5chk (K : Known) (F : List Fn) : Cs → Nat × Int
  | .mk _ body => St.r5chks K F body
def Cs.r5chks (K : Known) (F : List Fn) : List Cs → Nat × Int
  | [] => (0, 0)
  | x :: l => after (Cs.r5chk K F x) (Cs.r5chks K F l)
end
theorem St.r5chk_eq (K : Known) (F : List Fn) (x : St) : x.r5chk K F = after (1, x.h5 K F) (after (St.r5chks (x.nin5 K) F x.body) (after (Cs.r5chks (x.nin5 K) F x.cases) (St.r5chks (x.nin5 K) F x.els))) := by cases x; simp only [St.r5chk, St.body, St.cases, St.els]
/-- The names that may stand in a bound are those of R. -/
def KR (K : Known) (R : List ByteArray) : Prop := ∀ s, s ∈ R ↔ kindOf K s = 1 ∨ kindOf K s = 4
mutual
theorem Ex.cnt5 {K : Known} {G : List ByteArray} {f g : ByteArray → Int} (hg : ∀ s ∈ G, f s = g s) : ∀ x : Ex, x.nerr K G = 0 → x.evr (cntQ f) = x.evr (cntQ g)
  | .mk k n s l, h => by
    rw [Ex.nerr_eq] at h
    by_cases ho : Ex.nown K G (.mk k n s l) = 0
    · rw [if_neg (by rw [ho]; decide)] at h
      simp only [Ex.evr]
      rw [Ex.cnts5 hg l h]
      congr 1
      unfold cntQ Ex.kind Ex.name
      simp only
      by_cases h4 : k = 4
      · have hs : s ∈ G := by
          apply Classical.byContradiction
          intro hn
          unfold Ex.nown at ho
          rw [if_neg (by show ¬ k = 2; omega), if_neg (by show ¬ k = 3; omega), if_pos ⟨h4, hn⟩] at ho
          exact absurd ho (by decide)
        rw [hg s hs]
      · simp [h4]
    · rw [if_pos ho] at h; exact absurd h ho
theorem Ex.cnts5 {K : Known} {G : List ByteArray} {f g : ByteArray → Int} (hg : ∀ s ∈ G, f s = g s) : ∀ l : List Ex, Ex.nerrs K G l = 0 → Ex.evrs (cntQ f) l = Ex.evrs (cntQ g) l
  | [], _ => rfl
  | x :: l, h => by
    simp only [Ex.nerrs] at h
    by_cases h0 : x.nerr K G = 0
    · rw [if_neg (by rw [h0]; decide)] at h
      simp only [Ex.evrs]
      rw [Ex.cnt5 hg x h0, Ex.cnts5 hg l h]
    · rw [if_pos h0] at h; exact absurd h h0
end
mutual
theorem Ex.bnd5 {K : Known} {R : List ByteArray} (hR : KR K R) : ∀ (x : Ex) (lv : Int), x.err lv = 0 → x.bnd K = x.evr (bndQ R)
  | .mk k n s l, lv, h => by
    have h0 := h
    simp only [Ex.err] at h
    by_cases ho : Ex.own (.mk k n s l) lv = 0
    · rw [if_neg (by rw [ho]; decide)] at h
      have hl : (k = 1 ∨ k = 2) → l = [] := fun hk => by
        unfold Ex.own at ho
        split at ho
        · omega
        split at ho
        · omega
        rename_i hb
        rw [Bool.not_eq_true] at hb
        unfold Ex.badForm at hb
        simp only [Bool.or_eq_false_iff, Bool.and_eq_false_iff] at hb
        have := hb.1.1.2
        have ha : arityN k = 0 := by unfold arityN; rw [if_pos hk]
        have e : (Ex.mk k n s l).kind = k := rfl
        rw [e, ha] at this
        rcases this with h1 | h1
        · simp at h1
        · simp [Ex.args] at h1; exact h1
      simp only [Ex.bnd, Ex.evr]
      rw [← Ex.bnds5 hR l (lv + 1) h]
      have hb : bndQ R (.mk k n s l) = if k = 2 then decide (s ∈ R) else decide (k = 1 ∨ k = 5 ∨ k = 7 ∨ k = 8 ∨ k = 9) := rfl
      rw [hb]
      by_cases h1 : k = 1
      · rw [if_pos h1, hl (.inl h1), if_neg (by omega)]; simp [h1, Ex.bnds]
      · rw [if_neg h1]
        by_cases h2 : k = 2
        · rw [if_pos h2, if_pos h2, hl (.inr h2)]
          simp only [Ex.bnds, Bool.and_true]
          unfold cntO
          exact (decide_eq_decide.2 (hR s)).symm
        · rw [if_neg h2, if_neg h2]
          by_cases h5 : k = 5 ∨ k = 7 ∨ k = 8 ∨ k = 9
          · rw [if_pos h5]; simp [h1, h5]
          · rw [if_neg h5]; simp [h1, h5]
    · rw [if_pos ho] at h; exact absurd h ho
theorem Ex.bnds5 {K : Known} {R : List ByteArray} (hR : KR K R) : ∀ (l : List Ex) (lv : Int), Ex.errs l lv = 0 → Ex.bnds K l = Ex.evrs (bndQ R) l
  | [], _, _ => rfl
  | x :: l, lv, h => by
    simp only [Ex.errs] at h
    by_cases h0 : x.err lv = 0
    · rw [if_neg (by rw [h0]; decide)] at h
      simp only [Ex.bnds, Ex.evrs]
      rw [Ex.bnd5 hR x lv h0, Ex.bnds5 hR l lv h]
    · rw [if_pos h0] at h; exact absurd h h0
end
theorem St.nchk_split5 {K : Known} {G : List ByteArray} {L : Int} {x : St} (hf : x.fine) (h : (x.nchk K G L).2 = 0) :
    x.nfirst K G L = 0 ∧ (x.kind = 1 ∨ x.kind = 2 ∨ x.kind = 7 → kindOf K x.name = 0) ∧ ∃ L', (St.nchks (x.nin5 K) G L' x.body).2 = 0 ∧ (Cs.nchks (x.nin5 K) G L' x.cases).2 = 0 ∧ (St.nchks (x.nin5 K) G L' x.els).2 = 0 := by
  rw [St.nchk_eq] at h
  obtain ⟨h1, h2⟩ := after_two h
  refine ⟨h1, ?_⟩
  by_cases hk : x.kind = 7
  · rw [if_pos hk] at h2
    have hfr : kindOf K x.name = 0 := by
      by_cases e : kindOf K x.name = 0
      · exact e
      · rw [if_pos e] at h2; exact absurd h2 (by decide)
    rw [if_neg (by rw [hfr]; decide)] at h2
    have hfm := (St.formed_parts (St.own_formed ((St.fine_eq x).1 hf).1).1)
    have he : x.els = [] := by rcases hfm.2.2.2.2.2.1 with e | e
                               · rw [hk] at e; exact absurd e (by decide)
                               · exact e
    have hc : x.cases = [] := by rcases hfm.2.2.2.2.2.2 with e | e
                                 · rw [hk] at e; exact absurd e (by decide)
                                 · exact e
    unfold St.nin5
    rw [if_pos hk, he, hc]
    exact ⟨fun _ => hfr, L + 1, h2, rfl, rfl⟩
  · rw [if_neg hk] at h2
    have h3 : ¬ ((x.kind = 1 ∨ x.kind = 2) ∧ kindOf K x.name ≠ 0) := fun e => by rw [if_pos e] at h2; exact absurd h2 (by decide)
    rw [if_neg h3] at h2
    obtain ⟨h4, h5⟩ := after_two h2
    obtain ⟨h6, h7⟩ := after_two h5
    unfold St.nin5
    rw [if_neg hk]
    refine ⟨fun e => ?_, L, h4, h6, h7⟩
    by_cases e0 : kindOf K x.name = 0
    · exact e0
    · exact absurd ⟨by rcases e with e | e | e; exact .inl e; exact .inr e; exact absurd e hk, e0⟩ h3
theorem kind_snoc5 {K : Known} {t s : ByteArray} {v : Int} (hg : ∀ p ∈ K, p.2 ≠ 0) (hf : kindOf K t = 0) : kindOf (K ++ [(t, v)]) s = if s = t then v else kindOf K s := by
  rw [kindOf_append K _ s hg]
  by_cases e : s = t
  · subst e; rw [hf]; simp [kindOf]
  · rw [if_neg e]
    have e2 : ¬ t = s := fun h => e h.symm
    by_cases h0 : kindOf K s = 0
    · simp [h0, kindOf, e2]
    · simp [h0]
theorem kr_add {K : Known} {R : List ByteArray} {t : ByteArray} {v : Int} (hR : KR K R) (hg : ∀ p ∈ K, p.2 ≠ 0) (hf : kindOf K t = 0) (hv : v = 2 ∨ v = 3) : KR (K ++ [(t, v)]) R := fun s => by
  rw [kind_snoc5 hg hf, hR s]
  by_cases e : s = t
  · subst e; rw [hf, if_pos rfl]; omega
  · rw [if_neg e]
theorem kr_for {K : Known} {R : List ByteArray} {t : ByteArray} (hR : KR K R) (hg : ∀ p ∈ K, p.2 ≠ 0) (hf : kindOf K t = 0) : KR (K ++ [(t, 4)]) (R ++ [t]) := fun s => by
  rw [kind_snoc5 hg hf, List.mem_append, hR s]
  by_cases e : s = t
  · subst e; simp
  · rw [if_neg e]; simp [e]
theorem good_add {K : Known} {t : ByteArray} {v : Int} (hg : ∀ p ∈ K, p.2 ≠ 0) (hv : v ≠ 0) : ∀ p ∈ K ++ [(t, v)], p.2 ≠ 0 := fun p hp => by
  rcases List.mem_append.1 hp with h | h
  · exact hg p h
  · simp at h; subst h; exact hv
theorem kr_nadd {K : Known} {R : List ByteArray} {x : St} (hR : KR K R) (hg : ∀ p ∈ K, p.2 ≠ 0) (hf : x.kind = 1 ∨ x.kind = 2 ∨ x.kind = 7 → kindOf K x.name = 0) : KR (x.nadd K) R ∧ ∀ p ∈ x.nadd K, p.2 ≠ 0 := by
  unfold St.nadd
  split
  · rename_i e; exact ⟨kr_add hR hg (hf (.inl e)) (.inl rfl), good_add hg (by decide)⟩
  split
  · rename_i e; exact ⟨kr_add hR hg (hf (.inr (.inl e))) (.inr rfl), good_add hg (by decide)⟩
  · exact ⟨hR, hg⟩
theorem kr_nin {K : Known} {R : List ByteArray} {x : St} (hR : KR K R) (hg : ∀ p ∈ K, p.2 ≠ 0) (hf : x.kind = 1 ∨ x.kind = 2 ∨ x.kind = 7 → kindOf K x.name = 0) : KR (x.nin5 K) (x.radd R) ∧ ∀ p ∈ x.nin5 K, p.2 ≠ 0 := by
  unfold St.nin5 St.radd
  split
  · rename_i e; exact ⟨kr_for hR hg (hf (.inr (.inr e))), good_add hg (by decide)⟩
  · exact kr_nadd hR hg hf
/-- A zero expression calls nothing. -/
theorem cnt_zero {f : ByteArray → Int} {x : Ex} (h : x.zero = true) : x.evr (cntQ f) = true := by
  unfold Ex.zero at h
  simp only [Bool.and_eq_true, beq_iff_eq] at h
  have ha : x.args = [] := List.length_eq_zero_iff.1 h.2
  rw [Ex.evr_eq, ha]
  simp [cntQ, h.1.1.1, Ex.evrs]
/-- The forms of a statement's own expressions. -/
theorem front_errs {x : St} {lv : Int} (h : x.front lv = 0) : (cntA x.kind = true → x.a.err (lv + 1) = 0) ∧ (cntB x.kind = true → x.b.err (lv + 1) = 0) := by
  unfold St.front at h
  split at h
  · omega
  split at h
  · rename_i e; exact absurd h e
  split at h
  · rename_i e; exact absurd h e.2
  rename_i e1
  split at h
  · rename_i e; exact absurd h e.2
  rename_i e2
  exact ⟨fun ha => Classical.byContradiction fun hn => e1 ⟨ha, hn⟩, fun hb => Classical.byContradiction fun hn => e2 ⟨hb, hn⟩⟩
theorem errB_or (b : Bool) (e : Int) (he : e ≠ 0) : errB b e = 0 ↔ b = false := by cases b <;> simp [errB, he]
theorem h5_rown {K : Known} {G : List ByteArray} {F : List Fn} {ar : ByteArray → Int} {R : List ByteArray} {L lv : Int} {x : St} (hg : ∀ s ∈ G, parN F s = ar s) (hR : KR K R) (hf : x.fine) (hc : (x.chk lv).2 = 0) (hn : x.nfirst K G L = 0) : x.h5 K F = x.rown R ar := by
  have hfr : x.front lv = 0 := by rw [St.chk_eq] at hc; exact (after_two hc).1
  obtain ⟨ha, hb⟩ := front_errs hfr
  have hp := St.formed_parts (St.own_formed ((St.fine_eq x).1 hf).1).1
  have na : x.a.evr (cntQ (parN F)) = x.a.evr (cntQ ar) := by
    rcases hp.2.2.1 with h | h
    · refine Ex.cnt5 (K := K) hg x.a ?_
      unfold St.nfirst at hn
      unfold cntA at h
      simp only [decide_eq_true_eq] at h
      rw [if_neg (by omega), if_neg (by omega)] at hn
      split at hn
      · rename_i e; exact absurd hn e
      split at hn
      · rename_i e; exact absurd hn e
      · rename_i e; exact Classical.not_not.1 e
    · rw [cnt_zero h, cnt_zero h]
  have nb : x.b.evr (cntQ (parN F)) = x.b.evr (cntQ ar) := by
    rcases hp.2.2.2.1 with h | h
    · refine Ex.cnt5 (K := K) hg x.b ?_
      unfold St.nfirst at hn
      unfold cntB at h
      simp only [decide_eq_true_eq] at h
      rw [if_neg (by omega), if_neg (by omega)] at hn
      split at hn
      · rename_i e; exact absurd hn e
      split at hn
      · rename_i e; exact absurd hn e
      · exact hn
    · rw [cnt_zero h, cnt_zero h]
  have hcs : x.kind ≠ 6 → twiceN x.cases [] = false := fun h6 => by
    rcases hp.2.2.2.2.2.2 with h | h
    · unfold cntCases at h; simp at h; omega
    · rw [h]; rfl
  have hbd : x.kind = 7 → x.a.bnd K = x.a.evr (bndQ R) ∧ x.b.bnd K = x.b.evr (bndQ R) := fun h7 => ⟨Ex.bnd5 hR x.a (lv + 1) (ha (by rw [h7]; rfl)), Ex.bnd5 hR x.b (lv + 1) (hb (by rw [h7]; rfl))⟩
  unfold St.h5 St.rown St.w1 St.w3 Ex.cw
  rw [na, nb]
  by_cases h2 : x.kind = 2
  · have h6 := hcs (by omega)
    by_cases hr : x.n < 1 ∨ 1024 < x.n
    · simp [h2, hr, errB, keepE]
    · cases x.a.evr (cntQ ar) <;> cases x.b.evr (cntQ ar) <;> simp [h2, h6, hr, errB, keepE]
  · by_cases h6 : x.kind = 6
    · cases twiceN x.cases [] <;> cases x.a.evr (cntQ ar) <;> cases x.b.evr (cntQ ar) <;> simp [h6, errB, keepE]
    · rw [hcs h6]
      by_cases h7 : x.kind = 7
      · rw [(hbd h7).1, (hbd h7).2]
        cases x.a.evr (bndQ R) <;> cases x.b.evr (bndQ R) <;> cases x.a.evr (cntQ ar) <;> cases x.b.evr (cntQ ar) <;> simp [h7, errB, keepE]
      · cases x.a.evr (cntQ ar) <;> cases x.b.evr (cntQ ar) <;> simp [h2, h6, h7, errB, keepE]
mutual
theorem St.r5_eq (F : List Fn) (ar : ByteArray → Int) (G : List ByteArray) (hg : ∀ s ∈ G, parN F s = ar s) : ∀ (x : St) (K : Known) (L lv : Int) (R : List ByteArray), x.fine → (∀ p ∈ K, p.2 ≠ 0) → KR K R → (x.chk lv).2 = 0 → (x.nchk K G L).2 = 0 → x.r5chk K F = x.rchk R ar
  | .mk k s num a b body els cases, K, L, lv, R, hf, hgK, hR, hc, h => by
    obtain ⟨f1, d1, L1, p1, p2, p3⟩ := St.nchk_split5 hf h
    obtain ⟨z1, z2⟩ := kr_nin hR hgK d1
    obtain ⟨_, _, _, g1, g2, g3⟩ := (St.fine_eq _).1 hf
    have e := h5_rown hg hR hf hc f1
    rw [St.chk_eq] at hc
    obtain ⟨_, c1⟩ := after_two hc
    obtain ⟨c2, c3⟩ := after_two c1
    obtain ⟨c4, c5⟩ := after_two c3
    rw [St.r5chk_eq, St.rchk_eq, e]
    simp only [St.body, St.cases, St.els] at p1 p2 p3 g1 g2 g3 c2 c4 c5 ⊢
    rw [St.r5s_eq F ar G hg body _ _ _ _ g1 z2 z1 c2 p1, Cs.r5s_eq F ar G hg cases _ _ _ _ g2 z2 z1 c4 p2, St.r5s_eq F ar G hg els _ _ _ _ g3 z2 z1 c5 p3]
theorem St.r5s_eq (F : List Fn) (ar : ByteArray → Int) (G : List ByteArray) (hg : ∀ s ∈ G, parN F s = ar s) : ∀ (l : List St) (K : Known) (L lv : Int) (R : List ByteArray), St.fines l → (∀ p ∈ K, p.2 ≠ 0) → KR K R → (St.chks l lv).2 = 0 → (St.nchks K G L l).2 = 0 → St.r5chks K F l = St.rchks R ar l
  | [], _, _, _, _, _, _, _, _, _ => rfl
  | x :: l, K, L, lv, R, hf, hgK, hR, hc, h => by
    simp only [St.fines] at hf
    simp only [St.nchks] at h
    simp only [St.chks] at hc
    obtain ⟨a1, a2⟩ := after_two h
    obtain ⟨c1, c2⟩ := after_two hc
    obtain ⟨z1, z2⟩ := kr_nadd hR hgK (St.nchk_split5 hf.1 a1).2.1
    simp only [St.r5chks, St.rchks]
    rw [St.r5_eq F ar G hg x K L lv R hf.1 hgK hR c1 a1, St.r5s_eq F ar G hg l _ L lv R hf.2 z2 z1 c2 a2]
theorem Cs.r5_eq (F : List Fn) (ar : ByteArray → Int) (G : List ByteArray) (hg : ∀ s ∈ G, parN F s = ar s) : ∀ (x : Cs) (K : Known) (L lv : Int) (R : List ByteArray), x.fine → (∀ p ∈ K, p.2 ≠ 0) → KR K R → (x.chk lv).2 = 0 → (x.nchk K G L).2 = 0 → x.r5chk K F = x.rchk R ar
  | .mk _ body, K, L, lv, R, hf, hgK, hR, hc, h => by
    simp only [Cs.fine] at hf
    simp only [Cs.nchk] at h
    simp only [Cs.chk] at hc
    simp only [Cs.r5chk, Cs.rchk]
    exact St.r5s_eq F ar G hg body K L lv R hf hgK hR hc h
theorem Cs.r5s_eq (F : List Fn) (ar : ByteArray → Int) (G : List ByteArray) (hg : ∀ s ∈ G, parN F s = ar s) : ∀ (l : List Cs) (K : Known) (L lv : Int) (R : List ByteArray), Cs.fines l → (∀ p ∈ K, p.2 ≠ 0) → KR K R → (Cs.chks l lv).2 = 0 → (Cs.nchks K G L l).2 = 0 → Cs.r5chks K F l = Cs.rchks R ar l
  | [], _, _, _, _, _, _, _, _, _ => rfl
  | x :: l, K, L, lv, R, hf, hgK, hR, hc, h => by
    simp only [Cs.fines] at hf
    simp only [Cs.nchks] at h
    simp only [Cs.chks] at hc
    obtain ⟨a1, a2⟩ := after_two h
    obtain ⟨c1, c2⟩ := after_two hc
    simp only [Cs.r5chks, Cs.rchks]
    rw [Cs.r5_eq F ar G hg x K L lv R hf.1 hgK hR c1 a1, Cs.r5s_eq F ar G hg l K L lv R hf.2 hgK hR c2 a2]
end
end Go.Proofs.YtgcplcffejbniaaGreat
