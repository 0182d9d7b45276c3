/- ranges: a Body within an if, or a loop of one round: the plain law. -/
import Derived.Test.YtgcplcffejbniaaRgCut
import Derived.Test.YtgcplcffejbniaaNmWith
namespace Go.Proofs.Ytgcplcffejbniaa
open Go.RowKit Go.Maps

def numX (n : Int) : Ex := .mk 1 n ⟨#[]⟩ []
def zeroX : Ex := .mk 0 0 ⟨#[]⟩ []
def nameZ : ByteArray := ⟨#[122, 122, 122]⟩
/-- if 1 { body }, or for zzz in 0 .. 1 { body } -/
def wrS (c : Bool) (body : List St) : St := .mk (if c = true then 7 else 5) (if c = true then nameZ else ⟨#[]⟩) 0 (numX (if c = true then 0 else 1)) (if c = true then numX 1 else zeroX) body [] []
def wrR (c : Bool) (R : List ByteArray) : List ByteArray := if c = true then R ++ [nameZ] else R
theorem numX_evr (ask : Ex → Bool) (n : Int) : (numX n).evr ask = ask (numX n) := by rw [Ex.evr_eq]; simp [numX, Ex.args, Ex.evrs]
theorem zeroX_evr (ask : Ex → Bool) : zeroX.evr ask = ask zeroX := by rw [Ex.evr_eq]; simp [zeroX, Ex.args, Ex.evrs]
theorem wrS_rown (c : Bool) (R : List ByteArray) (ar : ByteArray → Int) (l : List St) : (wrS c l).rown R ar = 0 := by
  have hn : ∀ n, (numX n).evr (cntQ ar) = true := fun n => by rw [numX_evr]; rfl
  have hz : zeroX.evr (cntQ ar) = true := by rw [zeroX_evr]; rfl
  have hb : ∀ n, (numX n).evr (bndQ R) = true := fun n => by rw [numX_evr]; rfl
  cases c
  · have hk : (wrS false l).kind = 5 := rfl
    have ha : (wrS false l).a = numX 1 := rfl
    have hbb : (wrS false l).b = zeroX := rfl
    unfold St.rown
    rw [hk, ha, hbb, if_neg (by rintro ⟨h, _⟩; omega), if_neg (by rintro ⟨h, _⟩; omega), if_neg (by rintro ⟨h, _⟩; omega), if_pos ⟨hn 1, hz⟩]
  · have hk : (wrS true l).kind = 7 := rfl
    have ha : (wrS true l).a = numX 0 := rfl
    have hbb : (wrS true l).b = numX 1 := rfl
    unfold St.rown
    rw [hk, ha, hbb, if_neg (by rintro ⟨h, _⟩; omega), if_neg (by rintro ⟨h, _⟩; omega), if_neg (by rintro ⟨_, h⟩; exact h ⟨hb 0, hb 1⟩), if_pos ⟨hn 0, hn 1⟩]
theorem wrS_rchks (c : Bool) (R : List ByteArray) (ar : ByteArray → Int) (l : List St) : St.rchks R ar [wrS c l] = (1 + (St.rchks (wrR c R) ar l).1, (St.rchks (wrR c R) ar l).2) := by
  simp only [St.rchks, after_zero]
  rw [St.rchk_eq, wrS_rown]
  have e : (wrS c l).radd R = wrR c R := by cases c <;> simp [St.radd, wrS, St.kind, St.name, wrR]
  rw [e]
  simp only [wrS, St.body, St.cases, St.els, St.rchks, Cs.rchks, after_zero]
  unfold after
  simp
theorem St.rchks_one {R : List ByteArray} {ar : ByteArray → Int} {l : List St} (h : (St.rchks R ar l).2 ≠ 0) : 1 ≤ (St.rchks R ar l).1 := by
  cases l with
  | nil => simp [St.rchks] at h
  | cons x l =>
    have h1 : 1 ≤ (x.rchk R ar).1 := by
      rw [St.rchk_eq]
      unfold after
      split
      · exact Nat.le_refl _
      · simp
    simp only [St.rchks]
    unfold after
    split
    · exact h1
    · simp only; omega
mutual
theorem St.rchk_le (R : List ByteArray) (ar : ByteArray → Int) : ∀ x : St, (x.rchk R ar).1 ≤ x.total
  | .mk k s n a b body els cases => by
    have h1 := St.rchks_le (St.radd R (.mk k s n a b body els cases)) ar body
    have h2 := Cs.rchks_le (St.radd R (.mk k s n a b body els cases)) ar cases
    have h3 := St.rchks_le (St.radd R (.mk k s n a b body els cases)) ar els
    rw [St.rchk_eq, St.total_eq]
    simp only [St.body, St.cases, St.els] at *
    unfold after
    split
    · simp only; omega
    · split
      · simp only; omega
      · split
        · simp only; omega
        · simp only; omega
theorem St.rchks_le (R : List ByteArray) (ar : ByteArray → Int) : ∀ l : List St, (St.rchks R ar l).1 ≤ St.totals l
  | [] => Nat.le_refl _
  | x :: l => by
    have h1 := St.rchk_le R ar x
    have h2 := St.rchks_le R ar l
    simp only [St.rchks, St.totals]
    unfold after
    split
    · omega
    · simp only; omega
theorem Cs.rchk_le (R : List ByteArray) (ar : ByteArray → Int) : ∀ x : Cs, (x.rchk R ar).1 ≤ x.total
  | .mk n body => by
    have h1 := St.rchks_le R ar body
    rw [Cs.rchk_eq, Cs.total_eq]
    simp only [Cs.body] at *
    omega
theorem Cs.rchks_le (R : List ByteArray) (ar : ByteArray → Int) : ∀ l : List Cs, (Cs.rchks R ar l).1 ≤ Cs.totals l
  | [] => Nat.le_refl _
  | x :: l => by
    have h1 := Cs.rchk_le R ar x
    have h2 := Cs.rchks_le R ar l
    simp only [Cs.rchks, Cs.totals]
    unfold after
    split
    · omega
    · simp only; omega
end
/-- The names that may stand in a bound are the same, but for zzz. -/
def ZR (R R' : List ByteArray) : Prop := ∀ t, t ≠ nameZ → (t ∈ R' ↔ t ∈ R)
mutual
theorem Ex.zr {K : Known} {G : List ByteArray} {R R' : List ByteArray} (hK : kindOf K nameZ = 0) (hR : ZR R R') : ∀ x : Ex, x.nerr K G = 0 → x.evr (bndQ R') = x.evr (bndQ R)
  | .mk k n s l, h => by
    rw [Ex.nerr_eq] at h
    by_cases ho : Ex.nown K G (.mk k n s l) = 0
    · rw [if_neg (by rw [ho]; decide)] at h
      simp only [Ex.evr]
      rw [Ex.zrs hK hR l h]
      congr 1
      unfold bndQ Ex.kind Ex.name
      simp only
      by_cases h2 : k = 2
      · rw [if_pos h2, if_pos h2]
        have hne : s ≠ nameZ := fun e => by
          unfold Ex.nown at ho
          rw [if_pos (show (Ex.mk k n s l).kind = 2 from h2)] at ho
          unfold needE at ho
          rw [show (Ex.mk k n s l).name = nameZ from e, hK] at ho
          simp at ho
        exact decide_eq_decide.2 (hR s hne)
      · rw [if_neg h2, if_neg h2]
    · rw [if_pos ho] at h; exact absurd h ho
theorem Ex.zrs {K : Known} {G : List ByteArray} {R R' : List ByteArray} (hK : kindOf K nameZ = 0) (hR : ZR R R') : ∀ l : List Ex, Ex.nerrs K G l = 0 → Ex.evrs (bndQ R') l = Ex.evrs (bndQ R) l
  | [], _ => rfl
  | x :: l, h => by
    simp only [Ex.nerrs] at h
    by_cases h0 : x.nerr K G = 0
    · rw [if_neg (by rw [h0]; decide)] at h
      simp only [Ex.evrs]
      rw [Ex.zr hK hR x h0, Ex.zrs hK hR l h]
    · rw [if_pos h0] at h; exact absurd h h0
end
theorem kindOf_other {K : Known} {s t : ByteArray} {k : Int} (h : kindOf K s = 0) (hne : t ≠ s) : kindOf (K ++ [(t, k)]) s = 0 := by
  induction K with
  | nil => simp [kindOf, hne]
  | cons p K ih =>
    simp only [List.cons_append, kindOf] at h ⊢
    split
    · rename_i e; rw [if_pos e] at h; exact h
    · rename_i e; rw [if_neg e] at h; exact ih h
/-- What is known within a statement. -/
def St.nin (K : Known) (x : St) : Known := if x.kind = 7 then K ++ [(x.name, 4)] else x.nadd K
theorem St.nchk_split {K : Known} {G : List ByteArray} {L : Int} {x : St} (hf : x.fine) (h : (x.nchk K G L).2 = 0) :
    x.nfirst K G L = 0 ∧ (x.kind = 1 ∨ x.kind = 2 ∨ x.kind = 7 → kindOf K x.name = 0) ∧ ∃ L', (St.nchks (x.nin K) G L' x.body).2 = 0 ∧ (Cs.nchks (x.nin K) G L' x.cases).2 = 0 ∧ (St.nchks (x.nin K) G L' x.els).2 = 0 := by
  rw [St.nchk_eq] at h
  obtain ⟨h1, h2⟩ := after_two h
  refine ⟨h1, ?_⟩
  by_cases hk : x.kind = 7
  · rw [if_pos hk] at h2
    have hfr : kindOf K x.name = 0 := by
      by_cases e : kindOf K x.name = 0
      · exact e
      · rw [if_pos e] at h2; exact absurd h2 (by decide)
    rw [if_neg (by rw [hfr]; decide)] at h2
    have hfm := (St.formed_parts (St.own_formed ((St.fine_eq x).1 hf).1).1)
    have he : x.els = [] := by rcases hfm.2.2.2.2.2.1 with e | e
                               · rw [hk] at e; exact absurd e (by decide)
                               · exact e
    have hc : x.cases = [] := by rcases hfm.2.2.2.2.2.2 with e | e
                                 · rw [hk] at e; exact absurd e (by decide)
                                 · exact e
    unfold St.nin
    rw [if_pos hk, he, hc]
    exact ⟨fun _ => hfr, L + 1, h2, rfl, rfl⟩
  · rw [if_neg hk] at h2
    have h3 : ¬ ((x.kind = 1 ∨ x.kind = 2) ∧ kindOf K x.name ≠ 0) := fun e => by rw [if_pos e] at h2; exact absurd h2 (by decide)
    rw [if_neg h3] at h2
    obtain ⟨h4, h5⟩ := after_two h2
    obtain ⟨h6, h7⟩ := after_two h5
    unfold St.nin
    rw [if_neg hk]
    refine ⟨fun e => ?_, L, h4, h6, h7⟩
    by_cases e0 : kindOf K x.name = 0
    · exact e0
    · exact absurd ⟨by rcases e with e | e | e; exact .inl e; exact .inr e; exact absurd e hk, e0⟩ h3
theorem nin_zero {K K' : Known} {x : St} (hK : kindOf K nameZ = 0) (hK' : kindOf K' nameZ ≠ 0) (hd : x.kind = 1 ∨ x.kind = 2 ∨ x.kind = 7 → kindOf K' x.name = 0) : kindOf (x.nin K) nameZ = 0 ∧ kindOf (x.nin K') nameZ ≠ 0 ∧ (x.kind = 7 → x.name ≠ nameZ) ∧ kindOf (x.nadd K) nameZ = 0 ∧ kindOf (x.nadd K') nameZ ≠ 0 := by
  have hne : x.kind = 1 ∨ x.kind = 2 ∨ x.kind = 7 → x.name ≠ nameZ := fun e e2 => hK' (by rw [← e2]; exact hd e)
  have ha : kindOf (x.nadd K) nameZ = 0 := by
    unfold St.nadd
    split
    · rename_i e; exact kindOf_other hK (hne (.inl e))
    split
    · rename_i e; exact kindOf_other hK (hne (.inr (.inl e)))
    · exact hK
  refine ⟨?_, ?_, fun e => hne (.inr (.inr e)), ha, kindOf_nadd hK'⟩
  · unfold St.nin
    split
    · rename_i e; exact kindOf_other hK (hne (.inr (.inr e)))
    · exact ha
  · unfold St.nin
    split
    · exact kindOf_mono hK'
    · exact kindOf_nadd hK'
theorem rown_zr {K : Known} {G : List ByteArray} {L : Int} {R R' : List ByteArray} {ar : ByteArray → Int} {x : St} (hK : kindOf K nameZ = 0) (hR : ZR R R') (h : x.nfirst K G L = 0) : x.rown R' ar = x.rown R ar := by
  unfold St.rown
  by_cases h7 : x.kind = 7
  · have ha : x.a.nerr K G = 0 ∧ x.b.nerr K G = 0 := by
      unfold St.nfirst at h
      rw [if_neg (by rw [h7]; decide), if_neg (by rw [h7]; decide)] at h
      have hl : x.nlead K = 0 := by unfold St.nlead; rw [if_neg (by rw [h7]; decide), if_neg (by rw [h7]; decide)]
      rw [if_neg (by rw [hl]; decide)] at h
      by_cases e : x.a.nerr K G = 0
      · rw [if_neg (by rw [e]; decide), if_pos (.inr h7)] at h
        exact ⟨e, h⟩
      · rw [if_pos e] at h; exact absurd h e
    rw [Ex.zr hK hR x.a ha.1, Ex.zr hK hR x.b ha.2]
  · simp only [h7, false_and, if_false]
mutual
theorem St.zr (ar : ByteArray → Int) (G G' : List ByteArray) : ∀ (x : St) (K K' : Known) (L L' : Int) (R R' : List ByteArray), x.fine → kindOf K nameZ = 0 → kindOf K' nameZ ≠ 0 → ZR R R' → (x.nchk K G L).2 = 0 → (x.nchk K' G' L').2 = 0 → x.rchk R' ar = x.rchk R ar
  | .mk k s num a b body els cases, K, K', L, L', R, R', hf, hK, hK', hR, h1, h2 => by
    obtain ⟨f1, _, L1, p1, p2, p3⟩ := St.nchk_split hf h1
    obtain ⟨_, d2, L2, q1, q2, q3⟩ := St.nchk_split hf h2
    obtain ⟨z1, z2, z3, _, _⟩ := nin_zero hK hK' d2
    obtain ⟨_, _, _, g1, g2, g3⟩ := (St.fine_eq _).1 hf
    have hRR : ZR (St.radd R (.mk k s num a b body els cases)) (St.radd R' (.mk k s num a b body els cases)) := by
      unfold St.radd
      split
      · intro t ht
        rw [List.mem_append, List.mem_append, hR t ht]
      · exact hR
    rw [St.rchk_eq, St.rchk_eq, rown_zr hK hR f1]
    simp only [St.body, St.cases, St.els] at p1 p2 p3 q1 q2 q3 g1 g2 g3 ⊢
    rw [St.zrs ar G G' body _ _ _ _ _ _ g1 z1 z2 hRR p1 q1, Cs.zrs ar G G' cases _ _ _ _ _ _ g2 z1 z2 hRR p2 q2, St.zrs ar G G' els _ _ _ _ _ _ g3 z1 z2 hRR p3 q3]
theorem St.zrs (ar : ByteArray → Int) (G G' : List ByteArray) : ∀ (l : List St) (K K' : Known) (L L' : Int) (R R' : List ByteArray), St.fines l → kindOf K nameZ = 0 → kindOf K' nameZ ≠ 0 → ZR R R' → (St.nchks K G L l).2 = 0 → (St.nchks K' G' L' l).2 = 0 → St.rchks R' ar l = St.rchks R ar l
  | [], _, _, _, _, _, _, _, _, _, _, _, _ => rfl
  | x :: l, K, K', L, L', R, R', hf, hK, hK', hR, h1, h2 => by
    simp only [St.fines] at hf
    simp only [St.nchks] at h1 h2
    obtain ⟨a1, a2⟩ := after_two h1
    obtain ⟨b1, b2⟩ := after_two h2
    obtain ⟨_, _, _, z4, z5⟩ := nin_zero hK hK' (St.nchk_split hf.1 b1).2.1
    simp only [St.rchks]
    rw [St.zr ar G G' x K K' L L' R R' hf.1 hK hK' hR a1 b1, St.zrs ar G G' l _ _ L L' R R' hf.2 z4 z5 hR a2 b2]
theorem Cs.zr (ar : ByteArray → Int) (G G' : List ByteArray) : ∀ (x : Cs) (K K' : Known) (L L' : Int) (R R' : List ByteArray), x.fine → kindOf K nameZ = 0 → kindOf K' nameZ ≠ 0 → ZR R R' → (x.nchk K G L).2 = 0 → (x.nchk K' G' L').2 = 0 → x.rchk R' ar = x.rchk R ar
  | .mk _ body, K, K', L, L', R, R', hf, hK, hK', hR, h1, h2 => by
    simp only [Cs.fine] at hf
    simp only [Cs.nchk] at h1 h2
    simp only [Cs.rchk]
    exact St.zrs ar G G' body K K' L L' R R' hf hK hK' hR h1 h2
theorem Cs.zrs (ar : ByteArray → Int) (G G' : List ByteArray) : ∀ (l : List Cs) (K K' : Known) (L L' : Int) (R R' : List ByteArray), Cs.fines l → kindOf K nameZ = 0 → kindOf K' nameZ ≠ 0 → ZR R R' → (Cs.nchks K G L l).2 = 0 → (Cs.nchks K' G' L' l).2 = 0 → Cs.rchks R' ar l = Cs.rchks R ar l
  | [], _, _, _, _, _, _, _, _, _, _, _, _ => rfl
  | x :: l, K, K', L, L', R, R', hf, hK, hK', hR, h1, h2 => by
    simp only [Cs.fines] at hf
    simp only [Cs.nchks] at h1 h2
    obtain ⟨a1, a2⟩ := after_two h1
    obtain ⟨b1, b2⟩ := after_two h2
    simp only [Cs.rchks]
    rw [Cs.zr ar G G' x K K' L L' R R' hf.1 hK hK' hR a1 b1, Cs.zrs ar G G' l K K' L L' R R' hf.2 hK hK' hR a2 b2]
end
/-- The wrapped body's own look. -/
theorem wrS_body {K : Known} {G : List ByteArray} {c : Bool} {l : List St} (h : (St.nchks K G 0 [wrS c l]).2 = 0) : c = true → kindOf K nameZ = 0 ∧ (St.nchks (K ++ [(nameZ, 4)]) G 1 l).2 = 0 := by
  rintro rfl
  simp only [St.nchks, after_zero] at h
  rw [St.nchk_eq] at h
  have h2 := (after_two h).2
  rw [if_pos (by rfl)] at h2
  have e : (wrS true l).name = nameZ := rfl
  rw [e] at h2
  by_cases h0 : kindOf K nameZ = 0
  · rw [if_neg (by rw [h0]; decide)] at h2
    exact ⟨h0, h2⟩
  · rw [if_pos h0] at h2; exact absurd h2 (by decide)
theorem wrap_rchks {f : Fn} {G G' : List ByteArray} {c : Bool} (ar : ByteArray → Int) (hf : St.fines f.body) (h1 : (St.nchks (parK f.params) G 0 f.body).2 = 0) (h2 : (St.nchks (parK f.params) G' 0 [wrS c f.body]).2 = 0) :
    St.rchks (f.params.map (·.name)) ar [wrS c f.body] = (1 + (St.rchks (f.params.map (·.name)) ar f.body).1, (St.rchks (f.params.map (·.name)) ar f.body).2) := by
  rw [wrS_rchks]
  cases c
  · rfl
  · obtain ⟨h3, h4⟩ := wrS_body h2 rfl
    have hz : ZR (f.params.map (·.name)) (wrR true (f.params.map (·.name))) := fun t ht => by
      unfold wrR
      rw [if_pos rfl, List.mem_append]
      constructor
      · rintro (h | h)
        · exact h
        · exact absurd (by simpa using h) ht
      · exact .inl
    rw [St.zrs ar G G' f.body (parK f.params) (parK f.params ++ [(nameZ, 4)]) 0 1 _ _ hf h3 (kindOf_snoc (by decide) h3 (parK_in f.params).good) hz h1 h4]
def bumpF (n : Nat) (t : Flt) : Flt := if t.1 ≠ 0 ∧ t.2.1 = (n : Int) ∧ 0 < t.2.2 then (t.1, t.2.1, t.2.2 + 1) else t
theorem wrS_rfault {f : Fn} {G G' : List ByteArray} {c : Bool} (F : List Fn) (n : Nat) (hf : St.fines f.body) (h1 : (St.nchks (parK f.params) G 0 f.body).2 = 0) (h2 : (St.nchks (parK f.params) G' 0 [wrS c f.body]).2 = 0) :
    (f.withBody [wrS c f.body]).rfault F n = bumpF n (f.rfault F n) := by
  unfold Fn.rfault
  show (if emptyB f.params = true then _ else if (St.rchks (f.params.map (·.name)) (arOf F) [wrS c f.body]).2 ≠ 0 then ((St.rchks (f.params.map (·.name)) (arOf F) [wrS c f.body]).2, (n : Int), ((St.rchks (f.params.map (·.name)) (arOf F) [wrS c f.body]).1 : Int)) else _) = _
  rw [wrap_rchks (arOf F) hf h1 h2]
  by_cases h1 : emptyB f.params = true
  · rw [if_pos h1, if_pos h1]
    unfold bumpF
    rw [if_neg (by rintro ⟨_, _, h⟩; simp at h)]
  · rw [if_neg h1, if_neg h1]
    by_cases h2 : (St.rchks (f.params.map (·.name)) (arOf F) f.body).2 = 0
    · rw [if_neg (by simpa using h2), if_neg (by simpa using h2)]
      unfold bumpF
      rw [if_neg (by rintro ⟨h, _, _⟩; exact h rfl)]
    · have h3 := St.rchks_one h2
      rw [if_pos (by simpa using h2), if_pos h2]
      unfold bumpF
      rw [if_pos ⟨h2, rfl, by show (0 : Int) < ((St.rchks (f.params.map (·.name)) (arOf F) f.body).1 : Int); omega⟩]
      refine Prod.ext rfl (Prod.ext rfl ?_)
      show ((1 + (St.rchks (f.params.map (·.name)) (arOf F) f.body).1 : Nat) : Int) = ((St.rchks (f.params.map (·.name)) (arOf F) f.body).1 : Int) + 1
      omega
/-- How many parameters functions have tells nothing of their bodies. -/
theorem arOf_map {l l' : List Fn} (h : l.map (fun f => (f.name, f.params.length)) = l'.map (fun f => (f.name, f.params.length))) : arOf l = arOf l' := by
  have key : ∀ (l : List Fn) s, arOf l s = match (l.map (fun f => (f.name, f.params.length))).find? (fun q => decide (q.1 = s)) with
    | some q => (q.2 : Int)
    | none => 0 := fun l s => by
    unfold arOf
    rw [List.find?_map]
    have e : ((fun q : ByteArray × Nat => decide (q.1 = s)) ∘ fun f : Fn => (f.name, f.params.length)) = fun f : Fn => decide (f.name = s) := rfl
    rw [e]
    cases l.find? (fun f => decide (f.name = s)) <;> rfl
  funext s
  rw [key, key, h]
theorem Pg.withBody_heads (p : Pg) (n : Nat) (b : List St) : (p.withBody n b).funcs.map (fun f => (f.name, f.params.length)) = p.funcs.map (fun f => (f.name, f.params.length)) := by
  refine List.ext_getElem? fun j => ?_
  simp only [List.getElem?_map, Pg.withBody, List.getElem?_modify]
  cases p.funcs[j]? with
  | none => simp
  | some x => by_cases e : n = j <;> simp [e, Fn.withBody]
theorem Fn.rfault_ar {f : Fn} {F F' : List Fn} (h : arOf F = arOf F') (i : Nat) : f.rfault F i = f.rfault F' i := by unfold Fn.rfault; rw [h]
theorem wrap_rfault {p : Pg} {n : Nat} {f : Fn} {c : Bool} (hf : p.funcs[n]? = some f) (h1 : p.fault.1 = 0) (h2 : (p.withBody n [wrS c f.body]).fault.1 = 0) (h3 : p.nfault.1 = 0) (h4 : (p.withBody n [wrS c f.body]).nfault.1 = 0) : (p.withBody n [wrS c f.body]).rfault = bumpF n p.rfault := by
  rw [Pg.rfault_ok h3, Pg.rfault_ok h4]
  have hr1 := Fn.right (Pg.nfault_all h1 h3 n f hf)
  have hr2 := Fn.right (Pg.nfault_all h2 h4 n _ (Pg.withBody_at hf _))
  have hfine := ((Pg.good h1).2 n f hf).body
  have each : ∀ (j : Nat) y, (p.withBody n [wrS c f.body]).funcs[j]? = some y → ∃ z, p.funcs[j]? = some z ∧ y.rfault ([] ++ (p.withBody n [wrS c f.body]).funcs.take j) (0 + j) = (if j = n then bumpF n (z.rfault ([] ++ p.funcs.take j) (0 + j)) else z.rfault ([] ++ p.funcs.take j) (0 + j)) := fun j y hy => by
    have ha : arOf ([] ++ (p.withBody n [wrS c f.body]).funcs.take j) = arOf ([] ++ p.funcs.take j) := arOf_map (by simp only [List.nil_append, List.map_take, Pg.withBody_heads])
    rw [Fn.rfault_ar ha]
    by_cases e : j = n
    · subst e
      rw [Pg.withBody_at hf] at hy
      cases hy
      refine ⟨f, hf, ?_⟩
      rw [if_pos rfl, Nat.zero_add]
      exact wrS_rfault _ j hfine hr1.2.2 hr2.2.2
    · rw [Pg.withBody_ne p e] at hy
      exact ⟨y, hy, by rw [if_neg e]⟩
  have bump1 : ∀ t : Flt, (bumpF n t).1 = t.1 := fun t => by unfold bumpF; split <;> rfl
  have e1 : ∀ (j : Nat) y z, (p.withBody n [wrS c f.body]).funcs[j]? = some y → p.funcs[j]? = some z → (y.rfault ([] ++ (p.withBody n [wrS c f.body]).funcs.take j) (0 + j)).1 = (z.rfault ([] ++ p.funcs.take j) (0 + j)).1 := fun j y z hy hz => by
    obtain ⟨z', hz', e⟩ := each j y hy
    rw [hz] at hz'
    cases hz'
    rw [e]
    split
    · exact bump1 _
    · rfl
  rcases Fn.rfaults_cases [] p.funcs 0 with h | ⟨i, x, hx, h0, hz⟩
  · rw [Fn.rfaults_none h]
    have : bumpF n (0, 0, 0) = (0, 0, 0) := by unfold bumpF; rw [if_neg (fun h => h.1 rfl)]
    rw [this]
    refine Fn.rfaults_none fun j y hy => ?_
    obtain ⟨z, hz, _⟩ := each j y hy
    rw [e1 j y z hy hz]
    exact h j z hz
  · rw [Fn.rfaults_hit hx h0 hz]
    obtain ⟨y, hy⟩ : ∃ y, (p.withBody n [wrS c f.body]).funcs[i]? = some y := ⟨_, List.getElem?_eq_getElem (by rw [Pg.withBody_len]; exact (List.getElem?_eq_some_iff.1 hx).1)⟩
    obtain ⟨z, hz', e⟩ := each i y hy
    rw [hx] at hz'
    cases hz'
    rw [Fn.rfaults_hit hy (fun j y' hj hy' => by
      obtain ⟨z', hz', _⟩ := each j y' hy'
      rw [e1 j y' z' hy' hz']
      exact h0 j z' hj hz') (by rw [e1 i y x hy hx]; exact hz), e]
    split
    · rfl
    · rename_i hne
      unfold bumpF
      rw [if_neg]
      rintro ⟨_, h, _⟩
      rw [Fn.rfault_at _ _ _ hz] at h
      omega
/-- Straight on. -/
theorem wrap_ncallss (c : Bool) (l : List St) : St.ncallss [wrS c l] = St.ncallss l := by
  cases c <;> simp [St.ncallss, wrS, St.ncalls, numX, zeroX, Ex.ncalls, Ex.ncallss, Cs.ncallss]
theorem wrap_ncalls {p : Pg} {n : Nat} {f : Fn} {c : Bool} (hf : p.funcs[n]? = some f) (h3 : p.nfault.1 = 0) (h4 : (p.withBody n [wrS c f.body]).nfault.1 = 0) (i : Int) : (p.withBody n [wrS c f.body]).ncalls i = p.ncalls i := by
  unfold Pg.ncalls
  rw [h3, h4]
  by_cases h0 : i < 0
  · rw [if_pos (.inr h0), if_pos (.inr h0)]
  · rw [if_neg (by rintro (e | e); exact e rfl; exact h0 e), if_neg (by rintro (e | e); exact e rfl; exact h0 e)]
    rw [Pg.withBody_names]
    by_cases e : i.toNat = n
    · rw [e, Pg.withBody_at hf, hf]
      show callsN _ (St.ncallss [wrS c f.body]) = _
      rw [wrap_ncallss]
    · rw [Pg.withBody_ne p e]
/-- A fold that only asks, at two depths. -/
theorem ovrs_deep {st st' : Unit → St → Int → Unit × Bool} {lv : Unit → St → Unit} (P : Int → Int → Prop) (hP : ∀ n m, P n m → P (n + 1) (m + 1)) (h : ∀ x n m, P n m → (st () x n).2 = true → (st' () x m).2 = true) : ∀ (l : List St) (n m : Int), P n m → (St.ovrs st lv n l ()).2 = true → (St.ovrs st' lv m l ()).2 = true := by
  have hgo : ∀ (r : Unit × Bool) (k : Unit → Unit × Bool), (goOn r k).2 = true ↔ r.2 = true ∧ (k ()).2 = true := fun r k => by
    unfold goOn
    split
    · rename_i e; simp [e]
    · rename_i e; simp [e]
  have key : ∀ (g : Nat) (l : List St) (n m : Int), St.totals l < g → P n m → (St.ovrs st lv n l ()).2 = true → (St.ovrs st' lv m l ()).2 = true := by
    intro g
    induction g with
    | zero => intro l n m hl; omega
    | succ g ih =>
      have hcs : ∀ (l : List Cs) (n m : Int), Cs.totals l ≤ g → P n m → (Cs.ovrs st lv n l ()).2 = true → (Cs.ovrs st' lv m l ()).2 = true := by
        intro l n m
        induction l with
        | nil => intro _ _ _; rfl
        | cons y l ihl =>
          intro hl hp
          simp only [Cs.totals] at hl
          simp only [Cs.ovrs, hgo, Cs.ovr_eq]
          rintro ⟨a, b⟩
          have := Cs.total_eq y
          exact ⟨ih _ _ _ (by omega) hp a, ihl (by omega) hp b⟩
      intro l n m
      induction l with
      | nil => intro _ _ _; rfl
      | cons x l ihl =>
        intro hl hp
        simp only [St.totals] at hl
        have ht := St.total_eq x
        simp only [St.ovrs, hgo, St.ovr_eq]
        rintro ⟨⟨a, b, c, d, _⟩, e⟩
        refine ⟨⟨h x n m hp a, ih _ _ _ (by omega) ?_ b, hcs _ _ _ (by omega) hp c, ih _ _ _ (by omega) hp d, trivial⟩, ihl (by omega) hp e⟩
        split
        · exact hP n m hp
        · exact hp
  exact fun l n m => key _ l n m (Nat.lt_succ_self _)
mutual
/-- Is there a return? -/
def St.retB : St → Bool
  | .mk k _ _ _ _ body els cases => decide (k = 9) || (St.retsB body || (St.retsB els || Cs.retsB cases))
def St.retsB : List St → Bool
  | [] => false
  | x :: l => St.retB x || St.retsB l
def Cs.retB : Cs → Bool
  | .mk _ body => St.retsB body
def Cs.retsB : List Cs → Bool
  | [] => false
  | x :: l => Cs.retB x || Cs.retsB l
end
theorem St.retB_eq (x : St) : x.retB = (decide (x.kind = 9) || (St.retsB x.body || (St.retsB x.els || Cs.retsB x.cases))) := by cases x; simp only [St.retB]; rfl
theorem Cs.retB_eq (x : Cs) : x.retB = St.retsB x.body := by cases x; simp only [Cs.retB, Cs.body]
theorem St.retsB_append (l m : List St) : St.retsB (l ++ m) = (St.retsB l || St.retsB m) := by
  induction l with
  | nil => simp [St.retsB]
  | cons x l ih => simp only [List.cons_append, St.retsB, ih, Bool.or_assoc]
theorem Cs.retsB_append (l m : List Cs) : Cs.retsB (l ++ m) = (Cs.retsB l || Cs.retsB m) := by
  induction l with
  | nil => simp [Cs.retsB]
  | cons x l ih => simp only [List.cons_append, Cs.retsB, ih, Bool.or_assoc]
theorem St.retsB_next {l : List St} {i : Nat} {x : St} (h : l[i]? = some x) : St.retsB (l.take (i + 1)) = (St.retsB (l.take i) || x.retB) := by rw [take_next h, St.retsB_append]; simp [St.retsB]
theorem Cs.retsB_next {l : List Cs} {i : Nat} {x : Cs} (h : l[i]? = some x) : Cs.retsB (l.take (i + 1)) = (Cs.retsB (l.take i) || x.retB) := by rw [take_next h, Cs.retsB_append]; simp [Cs.retsB]
theorem St.retsB_hit {l : List St} {i : Nat} {x : St} (h : l[i]? = some x) (hx : x.retB = true) : St.retsB l = true := by
  conv => lhs; rw [← List.take_append_drop (i + 1) l]
  rw [St.retsB_append, St.retsB_next h, hx]; simp
theorem Cs.retsB_hit {l : List Cs} {i : Nat} {x : Cs} (h : l[i]? = some x) (hx : x.retB = true) : Cs.retsB l = true := by
  conv => lhs; rw [← List.take_append_drop (i + 1) l]
  rw [Cs.retsB_append, Cs.retsB_next h, hx]; simp
/-- Without a return the depth does not matter. -/
theorem ovrs_noret {st : Unit → St → Int → Unit × Bool} {lv : Unit → St → Unit} (h : ∀ x n m, x.kind ≠ 9 → (st () x n).2 = true → (st () x m).2 = true) : ∀ (l : List St) (n m : Int), St.retsB l = false → (St.ovrs st lv n l ()).2 = true → (St.ovrs st lv m l ()).2 = true := by
  have hgo : ∀ (r : Unit × Bool) (k : Unit → Unit × Bool), (goOn r k).2 = true ↔ r.2 = true ∧ (k ()).2 = true := fun r k => by
    unfold goOn
    split
    · rename_i e; simp [e]
    · rename_i e; simp [e]
  have key : ∀ (g : Nat) (l : List St) (n m : Int), St.totals l < g → St.retsB l = false → (St.ovrs st lv n l ()).2 = true → (St.ovrs st lv m l ()).2 = true := by
    intro g
    induction g with
    | zero => intro l n m hl; omega
    | succ g ih =>
      have hcs : ∀ (l : List Cs) (n m : Int), Cs.totals l ≤ g → Cs.retsB l = false → (Cs.ovrs st lv n l ()).2 = true → (Cs.ovrs st lv m l ()).2 = true := by
        intro l n m
        induction l with
        | nil => intro _ _ _; rfl
        | cons y l ihl =>
          intro hl hp
          simp only [Cs.totals] at hl
          simp only [Cs.retsB, Cs.retB_eq, Bool.or_eq_false_iff] at hp
          simp only [Cs.ovrs, hgo, Cs.ovr_eq]
          rintro ⟨a, b⟩
          have := Cs.total_eq y
          exact ⟨ih _ _ _ (by omega) hp.1 a, ihl (by omega) hp.2 b⟩
      intro l n m
      induction l with
      | nil => intro _ _ _; rfl
      | cons x l ihl =>
        intro hl hp
        simp only [St.totals] at hl
        have ht := St.total_eq x
        simp only [St.retsB, St.retB_eq, Bool.or_eq_false_iff, decide_eq_false_iff_not] at hp
        simp only [St.ovrs, hgo, St.ovr_eq]
        rintro ⟨⟨a, b, c, d, _⟩, e⟩
        exact ⟨⟨h x n m hp.1.1 a, ih _ _ _ (by omega) hp.1.2.1 b, hcs _ _ _ (by omega) hp.1.2.2.2 c, ih _ _ _ (by omega) hp.1.2.2.1 d, trivial⟩, ihl (by omega) hp.2 e⟩
  exact fun l n m => key _ l n m (Nat.lt_succ_self _)
theorem ovrs_wrS {st : Unit → St → Int → Unit × Bool} {lv : Unit → St → Unit} (c : Bool) (l : List St) : (St.ovrs st lv 0 [wrS c l] ()).2 = ((st () (wrS c l) 0).2 && (St.ovrs st lv (if c = true then 1 else 0) l ()).2) := by
  simp only [St.ovrs]
  rw [St.ovr_eq]
  have e : ∀ (r : Unit × Bool) (k : Unit → Unit × Bool), (goOn r k).2 = (r.2 && (k ()).2) := fun r k => by
    unfold goOn
    cases h : r.2 <;> simp [h]
  simp only [e]
  cases c <;> simp [wrS, St.kind, St.body, St.cases, St.els, St.ovrs, Cs.ovrs]
theorem wrap_upper (f : Fn) (c : Bool) (x : Ex) : upperB (f.withBody [wrS c f.body]) x = upperB f x := by
  unfold upperB
  show (decide (x.kind = 2) && (f.params.any _ && (St.ovrs (keepsQ x.name) (fun u _ => u) 0 [wrS c f.body] ()).2)) = _
  rw [ovrs_wrS]
  have h1 : (keepsQ x.name () (wrS c f.body) 0).2 = true := by
    unfold keepsQ
    cases c <;> simp [wrS, St.kind]
  have h2 : (St.ovrs (keepsQ x.name) (fun u _ => u) (if c = true then 1 else 0) f.body ()).2 = (St.ovrs (keepsQ x.name) (fun u _ => u) 0 f.body ()).2 := by
    rw [Bool.eq_iff_iff]
    exact ⟨ovrs_deep (fun _ _ => True) (fun _ _ _ => trivial) (fun _ _ _ _ h => h) _ _ _ trivial, ovrs_deep (fun _ _ => True) (fun _ _ _ => trivial) (fun _ _ _ _ h => h) _ _ _ trivial⟩
  rw [h1, h2, Bool.true_and]
theorem wrap_aloneQ (f : Fn) (c : Bool) (params : Bool) : aloneQ (f.withBody [wrS c f.body]) params = aloneQ f params := by
  funext u x n
  unfold aloneQ
  rw [wrap_upper]
theorem wrap_alone (f : Fn) (c : Bool) (params : Bool) : (f.withBody [wrS c f.body]).alone params = (c && (St.ovrs (aloneQ f params) (fun u _ => u) 1 f.body ()).2) := by
  unfold Fn.alone
  rw [wrap_aloneQ]
  show (St.ovrs (aloneQ f params) (fun u _ => u) 0 [wrS c f.body] ()).2 = _
  rw [ovrs_wrS]
  cases c
  · simp [aloneQ, wrS, St.kind]
  · have hp : ∀ n, (numX n).evr plainQ = true := fun n => by rw [numX_evr]; rfl
    have hs : ∀ n, (numX n).evr stillQ = true := fun n => by rw [numX_evr]; rfl
    have h : (aloneQ f params () (wrS true f.body) 0).2 = true := by
      have hk : (wrS true f.body).kind = 7 := rfl
      have ha : (wrS true f.body).a = numX 0 := rfl
      have hbb : (wrS true f.body).b = numX 1 := rfl
      unfold aloneQ
      rw [hk, ha, hbb, hp 0, hp 1, hs 0, hs 1]
      simp
    rw [h]; rfl
theorem aloneQ_deep (f : Fn) (params : Bool) : (St.ovrs (aloneQ f params) (fun u _ => u) 1 f.body ()).2 = true → f.alone params = true :=
  ovrs_deep (fun n m => m ≤ n) (fun _ _ h => by omega) (fun x n m hnm h => by
    unfold aloneQ at *
    simp only [Bool.and_eq_true, Bool.not_eq_true', decide_eq_false_iff_not] at *
    exact ⟨h.1, fun hc => h.2.1 ⟨hc.1, by omega⟩, h.2.2⟩) _ _ _ (by decide)
theorem aloneQ_noret (f : Fn) (params : Bool) (hr : St.retsB f.body = false) : f.alone params = true → (St.ovrs (aloneQ f params) (fun u _ => u) 1 f.body ()).2 = true :=
  ovrs_noret (fun x n m hk h => by
    unfold aloneQ at *
    simp only [Bool.and_eq_true, Bool.not_eq_true', decide_eq_false_iff_not] at *
    exact ⟨h.1, fun hc => hk hc.1, h.2.2⟩) _ _ _ hr
/-- What becomes of going straight on. -/
theorem wrap_straight {p : Pg} {n : Nat} {f : Fn} {c : Bool} (hf : p.funcs[n]? = some f) (h1 : p.fault.1 = 0) (h2 : (p.withBody n [wrS c f.body]).fault.1 = 0) (h3 : p.nfault.1 = 0) (h4 : (p.withBody n [wrS c f.body]).nfault.1 = 0) (params : Bool) :
    (c = false → (p.withBody n [wrS c f.body]).straight (n : Int) params = false) ∧ ((p.withBody n [wrS c f.body]).straight (n : Int) params = true → p.straight (n : Int) params = true) ∧
      (c = true → St.retsB f.body = false → (p.withBody n [wrS c f.body]).straight (n : Int) params = p.straight (n : Int) params) := by
  have hr : (p.withBody n [wrS c f.body]).rfault.1 = p.rfault.1 := by rw [wrap_rfault hf h1 h2 h3 h4]; unfold bumpF; split <;> rfl
  have hl := (List.getElem?_eq_some_iff.1 hf).1
  have hF : ∀ (m : Nat) (i : Int), 0 ≤ i → i < (n : Int) → (p.withBody n [wrS c f.body]).strF params m i = p.strF params m i := by
    intro m
    induction m with
    | zero => intro i _ _; rfl
    | succ m ih =>
      intro i h0 hi
      simp only [Pg.strF]
      have ea : (p.withBody n [wrS c f.body]).aloneAt params i = p.aloneAt params i := by
        unfold Pg.aloneAt
        rw [Pg.withBody_ne p (show i.toNat ≠ n by omega)]
      rw [ea, wrap_ncalls hf h3 h4]
      congr 1
      rw [Bool.eq_iff_iff, List.all_eq_true, List.all_eq_true]
      constructor
      · intro a k hk
        have := ncalls_lt hk
        rw [← ih k (by omega) (by omega)]; exact a k hk
      · intro a k hk
        have := ncalls_lt hk
        rw [ih k (by omega) (by omega)]; exact a k hk
  obtain ⟨A, hA⟩ : ∃ A, A = (p.ncalls (n : Int)).all (fun k => p.strF params n k) := ⟨_, rfl⟩
  have hp : p.str params (n : Int) = (f.alone params && A) := by
    unfold Pg.str
    rw [Int.toNat_natCast, Pg.strF, hA]
    unfold Pg.aloneAt
    rw [Int.toNat_natCast, hf]
  have hq : (p.withBody n [wrS c f.body]).str params (n : Int) = ((c && (St.ovrs (aloneQ f params) (fun u _ => u) 1 f.body ()).2) && A) := by
    unfold Pg.str
    rw [Int.toNat_natCast, Pg.strF, wrap_ncalls hf h3 h4]
    have e1 : (p.withBody n [wrS c f.body]).aloneAt params (n : Int) = (f.withBody [wrS c f.body]).alone params := by
      unfold Pg.aloneAt
      rw [Int.toNat_natCast, Pg.withBody_at hf]
    have e2 : (p.ncalls (n : Int)).all (fun k => (p.withBody n [wrS c f.body]).strF params n k) = A := by
      rw [hA, Bool.eq_iff_iff, List.all_eq_true, List.all_eq_true]
      constructor
      · intro a k hk
        have := ncalls_lt hk
        rw [← hF n k (by omega) (by omega)]; exact a k hk
      · intro a k hk
        have := ncalls_lt hk
        rw [hF n k (by omega) (by omega)]; exact a k hk
    rw [e1, e2, wrap_alone]
  unfold Pg.straight
  rw [hr, Pg.withBody_len, hp, hq]
  refine ⟨fun hc => ?_, fun h => ?_, fun hc hret => ?_⟩
  · rw [hc]; simp
  · simp only [Bool.and_eq_true] at h ⊢
    exact ⟨h.1, h.2.1, aloneQ_deep f params h.2.2.1.2, h.2.2.2⟩
  · have e : (St.ovrs (aloneQ f params) (fun u _ => u) 1 f.body ()).2 = f.alone params := by
      rw [Bool.eq_iff_iff]
      exact ⟨aloneQ_deep f params, aloneQ_noret f params hret⟩
    rw [hc, e]; rfl
end Go.Proofs.Ytgcplcffejbniaa
