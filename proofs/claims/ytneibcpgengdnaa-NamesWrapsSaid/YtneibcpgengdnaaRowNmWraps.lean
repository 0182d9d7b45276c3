/- soffitlaw04.NamesWraps returns true at every api.Program and int, and the inputs read behind the call as they did before. No condition. -/
import Derived.Test.YtneibcpgengdnaaNmAwake
import Derived.Test.YtneibcpgengdnaaNmLawAhead
import Derived.Test.YtneibcpgengdnaaNmWith
import Derived.Test.YtneibcpgengdnaaHeldZ
import Derived.Test.YtneibcpgengdnaaTrLift
/- names: a Body within an if: the plain law. -/
namespace Go.Proofs.Ytneibcpgengdnaa
open Go.RowKit Go.Maps

def numX (n : Int) : Ex := .mk 1 n ⟨#[]⟩ []
def zeroX : Ex := .mk 0 0 ⟨#[]⟩ []
/-- if 1 { body } -/
def ifS (body : List St) : St := .mk 5 ⟨#[]⟩ 0 (numX 1) zeroX body [] []
theorem St.nchks_one {K : Known} {G : List ByteArray} {loops : Int} {l : List St} (h : (St.nchks K G loops l).2 ≠ 0) : 1 ≤ (St.nchks K G loops l).1 := by
  cases l with
  | nil => simp [St.nchks] at h
  | cons x l =>
    have h1 : 1 ≤ (x.nchk K G loops).1 := by
      rw [St.nchk_eq]
      unfold after
      split
      · exact Nat.le_refl _
      · simp
    simp only [St.nchks]
    unfold after
    split
    · exact h1
    · simp only; omega
theorem ifS_nchk (K : Known) (G : List ByteArray) (l : List St) : St.nchks K G 0 [ifS l] = (1 + (St.nchks K G 0 l).1, (St.nchks K G 0 l).2) := by
  simp only [St.nchks, after_zero]
  rw [St.nchk_eq]
  have e1 : (ifS l).nfirst K G 0 = 0 := by
    simp [St.nfirst, St.nlead, ifS, St.kind, St.a, numX, Ex.nerr, Ex.nown, Ex.kind, Ex.nerrs]
  have e2 : (ifS l).nadd K = K := by simp [St.nadd, ifS, St.kind]
  rw [e1, e2]
  simp only [ifS, St.kind, St.body, St.cases, St.els, St.name, St.nchks, Cs.nchks, after_zero]
  rw [if_neg (by decide), if_neg (by rintro ⟨h, _⟩; omega)]
  unfold after
  simp
/-- A number one higher, where the fault lies in function n's statements. -/
def bumpF (n : Nat) (t : Flt) : Flt := if t.1 ≠ 0 ∧ t.2.1 = (n : Int) ∧ 0 < t.2.2 then (t.1, t.2.1, t.2.2 + 1) else t
theorem exsNil (w : World) : ExsIn w [] (.slice none 0 0) := .mk _ _ (fun _ => .bool false) ⟨none, 0, rfl, Nat.le_refl _, Nat.zero_le _, fun _ => rfl, fun h => absurd h (Nat.lt_irrefl _)⟩ (fun i x hx => by simp at hx)
theorem stsNil (w : World) : StsIn w [] (.slice none 0 0) := .mk _ _ (fun _ => .bool false) (fun _ => .bool false) (fun _ => .bool false) (fun _ => .bool false) (fun _ => .bool false) (fun _ _ => .bool false) ⟨none, 0, rfl, Nat.le_refl _, Nat.zero_le _, fun _ => rfl, fun h => absurd h (Nat.lt_irrefl _)⟩ (fun i x hx => by simp at hx) (fun i x hx => by simp at hx) (fun i x hx => by simp at hx) (fun i x hx => by simp at hx) (fun i x hx => by simp at hx) (fun i x k y hx => by simp at hx)
theorem ifS_in {w : World} {E : Nat} {body : List St} {v : Value} (h : StAt w E 0 (ifS body) (.slice none 0 0) (.slice none 0 0) v (.slice none 0 0) (.slice none 0 0)) (hE : E < w.heap.size) (hb : StsIn w body v) : StsIn w [ifS body] (.slice (some ⟨E, 0, none⟩) 1 1) := by
  have one : ∀ (i : Nat) x, [ifS body][i]? = some x → i = 0 ∧ x = ifS body := fun i x hx => by
    match i with
    | 0 => cases hx; exact ⟨rfl, rfl⟩
    | i + 1 => simp at hx
  refine .mk _ _ (fun _ => .slice none 0 0) (fun _ => .slice none 0 0) (fun _ => v) (fun _ => .slice none 0 0) (fun _ => .slice none 0 0) (fun _ _ => .bool false) ⟨some ⟨E, 0, none⟩, 1, rfl, Nat.le_refl _, by decide, by simp, fun _ => ⟨E, 0, rfl, hE, fun i hi x hx => ?_⟩⟩ (fun i x hx => ?_) (fun i x hx => ?_) (fun i x hx => ?_) (fun i x hx => ?_) (fun i x hx => ?_) (fun i x k y hx hy => ?_)
  · obtain ⟨rfl, rfl⟩ := one i x hx
    simpa using h
  · obtain ⟨rfl, rfl⟩ := one i x hx
    exact exsNil w
  · obtain ⟨rfl, rfl⟩ := one i x hx
    exact exsNil w
  · obtain ⟨rfl, rfl⟩ := one i x hx
    exact hb
  · obtain ⟨rfl, rfl⟩ := one i x hx
    exact stsNil w
  · obtain ⟨rfl, rfl⟩ := one i x hx
    exact ⟨none, 0, rfl, Nat.le_refl _, Nat.zero_le _, fun _ => rfl, fun h => absurd h (Nat.lt_irrefl _)⟩
  · obtain ⟨rfl, rfl⟩ := one i x hx
    simp [ifS, St.cases] at hy
/-- The number of a fault is small. -/
theorem Pg.nfault_low {p : Pg} (h : p.fault.1 = 0) : 0 ≤ p.nfault.2.2 ∧ p.nfault.2.2 ≤ 4096 := by
  rw [Pg.nfault_ok h]
  rcases Fn.nfaults_cases p.funcs [] 0 with h1 | ⟨i, x, hx, h0, hz⟩
  · rw [Fn.nfaults_none h1]; decide
  · rw [Fn.nfaults_hit hx h0 hz]
    have ht := ((Pg.good h).2 i x hx).total
    have hle := St.nchks_le (parK x.params) ([] ++ gAt p.funcs i) 0 x.body
    unfold Fn.nfault
    split
    · constructor <;> simp
    · split
      · simp only; omega
      · constructor <;> simp
theorem ifS_nfault (f : Fn) (G : List ByteArray) (n : Nat) : (f.withBody [ifS f.body]).nfault G n = bumpF n (f.nfault G n) := by
  unfold Fn.nfault
  show (if f.name ∈ G ∨ twiceB f.params [] = true then _ else if (St.nchks (parK f.params) G 0 [ifS f.body]).2 ≠ 0 then ((St.nchks (parK f.params) G 0 [ifS f.body]).2, (n : Int), ((St.nchks (parK f.params) G 0 [ifS f.body]).1 : Int)) else _) = _
  rw [ifS_nchk]
  by_cases h1 : f.name ∈ G ∨ twiceB f.params [] = true
  · rw [if_pos h1, if_pos h1]
    unfold bumpF
    rw [if_neg (by rintro ⟨_, _, h⟩; simp at h)]
  · rw [if_neg h1, if_neg h1]
    by_cases h2 : (St.nchks (parK f.params) G 0 f.body).2 = 0
    · rw [if_neg (by simpa using h2), if_neg (by simpa using h2)]
      unfold bumpF
      rw [if_neg (by rintro ⟨h, _, _⟩; exact h rfl)]
    · have h3 := St.nchks_one h2
      rw [if_pos (by simpa using h2), if_pos h2]
      unfold bumpF
      rw [if_pos ⟨h2, rfl, by show (0 : Int) < ((St.nchks (parK f.params) G 0 f.body).1 : Int); omega⟩]
      refine Prod.ext rfl (Prod.ext rfl ?_)
      show ((1 + (St.nchks (parK f.params) G 0 f.body).1 : Nat) : Int) = ((St.nchks (parK f.params) G 0 f.body).1 : Int) + 1
      omega
theorem wrap_nfault {p : Pg} {n : Nat} {f : Fn} (hf : p.funcs[n]? = some f) (h1 : p.fault.1 = 0) (h2 : (p.withBody n [ifS f.body]).fault.1 = 0) : (p.withBody n [ifS f.body]).nfault = bumpF n p.nfault :=
  Pg.nfault_with hf _ (bumpF n) rfl (fun t h => by unfold bumpF; rw [if_neg (fun hc => h hc.2.1)]) (fun t => by unfold bumpF; split <;> rfl) h1 h2 (ifS_nfault f _ n)
theorem wrap_ncalls {p : Pg} {n : Nat} {f : Fn} (hf : p.funcs[n]? = some f) (h1 : p.fault.1 = 0) (h2 : (p.withBody n [ifS f.body]).fault.1 = 0) : (p.withBody n [ifS f.body]).ncalls (n : Int) = p.ncalls (n : Int) := by
  unfold Pg.ncalls
  rw [wrap_nfault hf h1 h2]
  have e : (bumpF n p.nfault).1 = p.nfault.1 := by unfold bumpF; split <;> rfl
  rw [e]
  simp only [Int.toNat_natCast, Pg.withBody_at hf, hf, Pg.withBody_names]
  have e2 : St.ncallss (f.withBody [ifS f.body]).body = St.ncallss f.body := by
    show St.ncallss [ifS f.body] = _
    simp [St.ncallss, ifS, St.ncalls, numX, Ex.ncalls, Ex.ncallss, Cs.ncallss]
  rw [e2]
end Go.Proofs.Ytneibcpgengdnaa

/- names: the walk of NamesWraps. -/
namespace Go.Proofs.Ytneibcpgengdnaa
open Go.RowKit Go.Maps

set_option maxRecDepth 100000 in
set_option maxHeartbeats 4000000 in
theorem lawWraps_any (W : World) (p : Pg) (vw vf : Value) (vp vb : Nat → Value) (k : Int) (h : PgIn W p vw vf vp vb) (hk : -9223372036854775808 ≤ k ∧ k ≤ 9223372036854775807) : Calls Try.prog 9 #[pgV vw vf, .int .i64 k] W (Gives (.bool true) W) := by
  obtain ⟨aw, cw, rfl, -⟩ := h.widen.row.form
  obtain ⟨a, cap, rfl, hc1, hc2⟩ := h.funcs.row.form
  obtain ⟨n, hn⟩ : ∃ n, n = p.funcs.length := ⟨_, rfl⟩
  obtain ⟨m, hm⟩ : ∃ m, m = p.widen.length := ⟨_, rfl⟩
  rw [← hn, ← hm] at h
  rw [← hn, ← hm]
  rw [← hn] at hc1
  have hn62 : n ≤ 9223372036854775807 := by have : maxLen ≤ 9223372036854775807 := by decide
                                            omega
  obtain ⟨hk1, hk2⟩ := hk
  have HP := Lib.hid h
  have Hl := Lib.hid (And.intro hm hn)
  obtain ⟨W1, hW1⟩ : ∃ W1, W1 = W.alloc (.cells #[.slice aw m cw, .slice a n cap] 26) := ⟨_, rfl⟩
  obtain ⟨B, hB⟩ : ∃ B, B = W.heap.size := ⟨_, rfl⟩
  have hb1 : Below W.heap.size W W1 := by rw [hW1]; exact (Below.refl _ _).alloc (Nat.le_refl _) _
  have c0 : W1.cell? ⟨B, 0, none⟩ = some (.slice aw m cw) := by rw [hW1, hB]; exact World.cell?_alloc_at _ _ _ _ rfl
  have c1 : W1.cell? ⟨B, 1, none⟩ = some (.slice a n cap) := by rw [hW1, hB]; exact World.cell?_alloc_at _ _ _ _ rfl
  have qB : B < W1.heap.size := by rw [hW1, hB]; simp
  have HW1 := Lib.hid (And.intro hW1 hB)
  have H1 := Lib.hid (And.intro hb1 (And.intro c0 c1))
  unfold pgV
  clear h hn hm hW1 hB hb1 c0 c1
  go_enter Try.func9, Try.ntmps9
  go_upto_region 1 with (fail)
  rw [← HW1.out.1, ← HW1.out.2]
  go_wp2_with fail
  refine (nawake_any W1).mono ?_
  rintro e w2 ⟨rfl, hb2⟩
  have d0 := (hb2.cell (p := ⟨B, 0, none⟩) qB).trans H1.out.2.1
  have d1 := (hb2.cell (p := ⟨B, 1, none⟩) qB).trans H1.out.2.2
  have H2 := Lib.hid (And.intro (H1.out.1.trans (hb2.mono H1.out.1.size)) (And.intro d0 d1))
  have q2 : B < w2.heap.size := Nat.lt_of_lt_of_le qB hb2.size
  clear hb2
  go_wp2_with fail
  refine (ncheck_any p (.slice aw m cw) (.slice a n cap) vp vb w2 (HP.out.later H2.out.1)).mono ?_
  rintro e w3 ⟨rfl, hb3⟩
  obtain ⟨t, ht⟩ : ∃ t, t = p.nfault := ⟨_, rfl⟩
  rw [← ht]
  have Ht := Lib.hid ht
  obtain ⟨ea, eb, ec⟩ := t
  unfold fltV
  obtain ⟨W4, hW4⟩ : ∃ W4, W4 = w3.alloc (.cells #[.int .i64 ea, .int .i64 eb, .int .i64 ec] 29) := ⟨_, rfl⟩
  obtain ⟨D, hD⟩ : ∃ D, D = w3.heap.size := ⟨_, rfl⟩
  have hb4 : Below w3.heap.size w3 W4 := by rw [hW4]; exact (Below.refl _ _).alloc (Nat.le_refl _) _
  have f0 : W4.cell? ⟨D, 0, none⟩ = some (.int .i64 ea) := by rw [hW4, hD]; exact World.cell?_alloc_at _ _ _ _ rfl
  have f1 : W4.cell? ⟨D, 1, none⟩ = some (.int .i64 eb) := by rw [hW4, hD]; exact World.cell?_alloc_at _ _ _ _ rfl
  have f2 : W4.cell? ⟨D, 2, none⟩ = some (.int .i64 ec) := by rw [hW4, hD]; exact World.cell?_alloc_at _ _ _ _ rfl
  have fz : W4.frozen? ⟨D, 2, none⟩ = false := by rw [hW4, hD]; exact World.frozen?_alloc_at _ _ _ _ rfl
  have hb24 : Below w2.heap.size w2 W4 := hb3.trans (hb4.mono hb3.size)
  have H4 := Lib.hid (And.intro (H2.out.1.trans (hb24.mono H2.out.1.size)) (And.intro ((hb24.cell (p := ⟨B, 0, none⟩) q2).trans H2.out.2.1) (And.intro ((hb24.cell (p := ⟨B, 1, none⟩) q2).trans H2.out.2.2) (And.intro f0 (And.intro f1 (And.intro f2 fz))))))
  have q4 : B < W4.heap.size := Nat.lt_of_lt_of_le q2 hb24.size
  have q4D : D < W4.heap.size := by rw [hW4, hD]; simp
  have hWD : W.heap.size ≤ D ∧ B < D := by have := H2.out.1.size; have := hb3.size; omega
  have HW4 := Lib.hid (And.intro hW4 hD)
  clear ht hb3 hb4 hb24 hW4 hD f0 f1 f2 d0 d1 fz
  go_upto_region 4 with (fail)
  rw [← HW4.out.1, ← HW4.out.2]
  obtain ⟨-, c0, c1, f0, f1, f2, fz⟩ := H4.out
  go_wp2_with fail
  refine (check_any p (.slice aw m cw) (.slice a n cap) vp vb W4 (HP.out.later H4.out.1)).mono ?_
  rintro e w5 ⟨rfl, hb5⟩
  have H5 := Lib.hid (And.intro (H4.out.1.trans (hb5.mono H4.out.1.size)) (And.intro ((hb5.cell (p := ⟨B, 0, none⟩) q4).trans c0) (And.intro ((hb5.cell (p := ⟨B, 1, none⟩) q4).trans c1) (And.intro ((hb5.cell (p := ⟨D, 0, none⟩) q4D).trans f0) (And.intro ((hb5.cell (p := ⟨D, 1, none⟩) q4D).trans f1) (And.intro ((hb5.cell (p := ⟨D, 2, none⟩) q4D).trans f2) ((hb5.frozen (p := ⟨D, 2, none⟩) q4D).trans fz)))))))
  have q5 : B < w5.heap.size := Nat.lt_of_lt_of_le q4 hb5.size
  have q5D : D < w5.heap.size := Nat.lt_of_lt_of_le q4D hb5.size
  obtain ⟨u, hu⟩ : ∃ u, u = p.fault := ⟨_, rfl⟩
  rw [← hu]
  have Hu := Lib.hid hu
  obtain ⟨ga, gb, gc⟩ := u
  unfold fltV
  clear hu hb5 c0 c1 f0 f1 f2 fz
  obtain ⟨-, c0, c1, f0, f1, f2, fz⟩ := H5.out
  have hfe := run_faultE
  by_cases hin : ga = 0 ∧ 0 ≤ k ∧ k < n
  · obtain ⟨hg, hk0, hkn⟩ := hin
    subst hg
    obtain ⟨j, rfl⟩ : ∃ j : Nat, k = (j : Int) := ⟨k.toNat, by omega⟩
    have hjn : j < n := by omega
    obtain ⟨f, hf⟩ : ∃ f, p.funcs[j]? = some f := ⟨_, List.getElem?_eq_getElem (by rw [← Hl.out.2]; exact hjn)⟩
    have hfz : p.fault.1 = 0 := by rw [← Hu.out]
    have Hf := Lib.hid (And.intro hf hfz)
    have hd1 : decide ((j : Int) < 0) = false := by simp
    have hd2 : decide ((n : Int) ≤ (j : Int)) = false := by simp; omega
    clear hf hfz hk0 hkn
    go_wp2_with fail
    clear hd1 hd2
    refine (copy_any p (.slice aw m cw) (.slice a n cap) vp vb W HP.out (Pg.small_of Hf.out.2) w5 H5.out.1).mono ?_
    rintro e w6 ⟨v6, rfl, hb6, ho6⟩
    obtain ⟨mid, gw, ocw, g, ocap, vp', vb', q, m0, m1, gp, cp, rfl, how, hoc, ho⟩ := ho6
    have HO := Lib.hid ho
    have hgl := ho.fns.hg
    have hgmid := ho.hw
    rw [← Hl.out.1] at how ⊢
    rw [← Hl.out.2] at hoc ⊢
    have hoc2 : n ≤ ocap := Nat.le_of_lt hoc
    obtain ⟨abo, cbo, hvb, -⟩ := (ho.fns.each j f (by rw [← Hl.out.2]; exact hjn) Hf.out.1).body.reads.form
    obtain ⟨nb, hnb⟩ : ∃ nb, nb = f.body.length := ⟨_, rfl⟩
    rw [← hnb] at hvb
    have gc2 : w6.cell? ⟨g, j * 3 + 2, none⟩ = some (.slice abo nb cbo) := by
      obtain ⟨_, _, _, k4⟩ := ownsRow_rowOf ho.fns.own (fnRow_len p.funcs vp' vb')
      exact k4 j 2 _ (by rw [← Hl.out.2]; exact hjn) (by decide) (by rw [fnRow_at Hf.out.1, hvb]; rfl)
    have gfz : w6.frozen? ⟨g, j * 3 + 2, none⟩ = false := World.ownsRow.frozenAt ho.fns.own _
    have Hvb := Lib.hid hvb
    have H6 := Lib.hid (And.intro hb6 (H5.out.1.trans (hb6.mono H5.out.1.size)))
    have q6 := hb6.size
    rw [← hb6.cell (p := ⟨B, _, none⟩) q5] at c0 c1
    rw [← hb6.cell (p := ⟨D, _, none⟩) q5D] at f0 f1 f2
    rw [← hb6.frozen (p := ⟨D, _, none⟩) q5D] at fz
    obtain ⟨C, hC⟩ : ∃ C, C = w6.heap.size := ⟨_, rfl⟩
    obtain ⟨W7, hW7⟩ : ∃ w : World, w = w6.alloc (.cells #[.slice (some ⟨gw, 0, none⟩) m ocw, .slice (some ⟨g, 0, none⟩) n ocap] 26) := ⟨_, rfl⟩
    have hb7 : Below w6.heap.size w6 W7 := by rw [hW7]; exact (Below.refl _ _).alloc (Nat.le_refl _) _
    have d0 : W7.cell? ⟨C, 0, none⟩ = some (.slice (some ⟨gw, 0, none⟩) m ocw) := by rw [hW7, hC]; exact World.cell?_alloc_at _ _ _ _ rfl
    have d1 : W7.cell? ⟨C, 1, none⟩ = some (.slice (some ⟨g, 0, none⟩) n ocap) := by rw [hW7, hC]; exact World.cell?_alloc_at _ _ _ _ rfl
    have q7 : C < W7.heap.size ∧ w6.heap.size ≤ C ∧ C ≤ w6.heap.size := by rw [hW7, hC]; simp
    have HW7 := Lib.hid (And.intro hW7 hC)
    rw [← hb7.cell (p := ⟨B, _, none⟩) (by show B < _; omega)] at c0 c1
    rw [← hb7.cell (p := ⟨D, _, none⟩) (by show D < _; omega)] at f0 f1 f2
    rw [← hb7.frozen (p := ⟨D, _, none⟩) (by show D < _; omega)] at fz
    rw [← hb7.cell (p := ⟨g, _, none⟩) hgl.2] at gc2
    rw [← hb7.frozen (p := ⟨g, _, none⟩) hgl.2] at gfz
    have H7 := Lib.hid hb7
    unfold pgV
    clear hb6 ho hvb hnb hW7 hC hb7
    go_upto_region 7 with (fail)
    rw [← HW7.out.1, ← HW7.out.2]
    refine wp_region_heldZ (S := fun w => w.cell? ⟨C, 1, none⟩ = some (.slice (some ⟨g, 0, none⟩) n ocap) ∧ w.cell? ⟨g, j * 3 + 2, none⟩ = some (.slice abo nb cbo)) (z := 14) rfl ?_
    change wpAnyZ _ _ _ _ _ _ _ _ _ W7.drew
    obtain ⟨W0, hW0⟩ : ∃ W0, W0 = W7.drew := ⟨_, rfl⟩
    rw [← hW0]
    have hb0 : Below W7.heap.size W7 W0 := by rw [hW0]; exact (Below.refl _ _).drew
    have q0 : W7.heap.size ≤ W0.heap.size := hb0.size
    have Hb : Hid (W0.cell? ⟨C, 1, none⟩ = some (.slice (some ⟨g, 0, none⟩) n ocap) ∧ W0.cell? ⟨g, j * 3 + 2, none⟩ = some (.slice abo nb cbo)) := ⟨(hb0.cell (p := ⟨C, _, none⟩) (by show C < _; omega)).trans d1, (hb0.cell (p := ⟨g, _, none⟩) (by show g < _; omega)).trans gc2⟩
    have H0 := Lib.hid hb0
    have gfz0 := (hb0.frozen (p := ⟨g, j * 3 + 2, none⟩) (by show g < _; omega)).trans gfz
    have H7c := Lib.hid (And.intro c0 (And.intro c1 (And.intro d0 (And.intro d1 (And.intro f0 (And.intro f1 (And.intro f2 fz)))))))
    clear hb0 hW0 c0 c1 d0 d1 f0 f1 f2 fz gc2 gfz
    refine wpAnyZ_take (i := 0) (by simp only [List.getElem?_toArray, List.getElem?_cons_zero]; rfl) (by kernel_rfl) (by kernel_rfl) (by kernel_rfl) (by kernel_rfl) (by intro _ _ _ h; exact h) (Or.inl ⟨by rfl, fun w hw => by (obtain ⟨k0, k1⟩ := hw; go_simp; try rfl)⟩) Hb.out ?_
    refine wpAnyZ_take (i := 1) (by simp only [List.getElem?_toArray, List.getElem?_cons_succ, List.getElem?_cons_zero]; rfl) (by kernel_rfl) (by kernel_rfl) (by kernel_rfl) (by kernel_rfl) (by intro _ _ _ h; exact h) (Or.inl ⟨by rfl, fun w hw => by (obtain ⟨k0, k1⟩ := hw; go_simp; try rfl)⟩) Hb.out ?_
    go_frame
    refine wpAnyZ_take (i := 2) (by simp only [List.getElem?_toArray, List.getElem?_cons_succ, List.getElem?_cons_zero]; rfl) (by kernel_rfl) (by kernel_rfl) (by kernel_rfl) (by kernel_rfl) (by intro _ _ _ h; exact h) (Or.inl ⟨by rfl, fun w hw => by (obtain ⟨k0, k1⟩ := hw; go_simp; try rfl)⟩) Hb.out ?_
    refine wpAnyZ_take (i := 3) (by simp only [List.getElem?_toArray, List.getElem?_cons_succ, List.getElem?_cons_zero]; rfl) (by kernel_rfl) (by kernel_rfl) (by kernel_rfl) (by kernel_rfl) (by intro _ _ _ h; exact h) (Or.inl ⟨by rfl, fun w hw => by (obtain ⟨k0, k1⟩ := hw; go_simp; try rfl)⟩) Hb.out ?_
    go_frame
    refine wpAnyZ_take (i := 4) (by simp only [List.getElem?_toArray, List.getElem?_cons_succ, List.getElem?_cons_zero]; rfl) (by kernel_rfl) (by kernel_rfl) (by kernel_rfl) (by kernel_rfl) (by intro _ _ _ h; exact h) (Or.inl ⟨by rfl, fun w hw => by (obtain ⟨k0, k1⟩ := hw; go_simp; try rfl)⟩) Hb.out ?_
    refine wpAnyZ_take (i := 5) (by simp only [List.getElem?_toArray, List.getElem?_cons_succ, List.getElem?_cons_zero]; rfl) (by kernel_rfl) (by kernel_rfl) (by kernel_rfl) (by kernel_rfl) (by intro _ _ _ h; exact h) (Or.inl ⟨by rfl, fun w hw => by (obtain ⟨k0, k1⟩ := hw; go_simp; try rfl)⟩) Hb.out ?_
    go_frame
    refine wpAnyZ_take (i := 6) (by simp only [List.getElem?_toArray, List.getElem?_cons_succ, List.getElem?_cons_zero]; rfl) (by kernel_rfl) (by kernel_rfl) (by kernel_rfl) (by kernel_rfl) (by intro _ _ _ h; exact h) (Or.inl ⟨by rfl, fun w hw => by (obtain ⟨k0, k1⟩ := hw; go_simp; try rfl)⟩) Hb.out ?_
    refine wpAnyZ_take (i := 7) (by simp only [List.getElem?_toArray, List.getElem?_cons_succ, List.getElem?_cons_zero]; rfl) (by kernel_rfl) (by kernel_rfl) (by kernel_rfl) (by kernel_rfl) (by intro _ _ _ h; exact h) (Or.inl ⟨by rfl, fun w hw => by (obtain ⟨k0, k1⟩ := hw; go_simp; try rfl)⟩) Hb.out ?_
    go_frame
    refine wpAnyZ_take (i := 8) (by simp only [List.getElem?_toArray, List.getElem?_cons_succ, List.getElem?_cons_zero]; rfl) (by kernel_rfl) (by kernel_rfl) (by kernel_rfl) (by kernel_rfl) (by intro _ _ _ h; exact h) (Or.inl ⟨by rfl, fun w hw => by (obtain ⟨k0, k1⟩ := hw; go_simp; try rfl)⟩) Hb.out ?_
    refine wpAnyZ_take (i := 9) (by simp only [List.getElem?_toArray, List.getElem?_cons_succ, List.getElem?_cons_zero]; rfl) (by kernel_rfl) (by kernel_rfl) (by kernel_rfl) (by kernel_rfl) (by intro _ _ _ h; exact h) (Or.inl ⟨by rfl, fun w hw => by (obtain ⟨k0, k1⟩ := hw; go_simp; try rfl)⟩) Hb.out ?_
    go_frame
    refine wpAnyZ_take (i := 10) (by simp only [List.getElem?_toArray, List.getElem?_cons_succ, List.getElem?_cons_zero]; rfl) (by kernel_rfl) (by kernel_rfl) (by kernel_rfl) (by kernel_rfl) (by intro _ _ _ h; exact h) (Or.inl ⟨by rfl, fun w hw => by (obtain ⟨k0, k1⟩ := hw; go_simp; try rfl)⟩) Hb.out ?_
    go_frame
    refine wpAnyZ_next (i := 11) (by kernel_rfl) (by simp only [List.getElem?_toArray, List.getElem?_cons_succ, List.getElem?_cons_zero]; rfl) (fun K hK => ?_)
    go_simp
    obtain ⟨E, hE⟩ : ∃ E, E = W0.heap.size := ⟨_, rfl⟩
    obtain ⟨W8, hW8⟩ : ∃ w : World, w = W0.alloc (.cells #[.int .i64 5, .string ⟨#[]⟩, .int .i64 0, .int .i64 1, .int .i64 1, .string ⟨#[]⟩, .slice none 0 0, .int .i64 0, .int .i64 0, .string ⟨#[]⟩, .slice none 0 0, .slice abo nb cbo, .slice none 0 0, .slice none 0 0] 47) := ⟨_, rfl⟩
    rw [← hE, ← hW8]
    have hb8 : Below W0.heap.size W0 W8 := by rw [hW8]; exact (Below.refl _ _).alloc (Nat.le_refl _) _
    have hst8 : StAt W8 E 0 (ifS f.body) (.slice none 0 0) (.slice none 0 0) (.slice abo nb cbo) (.slice none 0 0) (.slice none 0 0) := by rw [hW8, hE]; constructor <;> exact World.cell?_alloc_at _ _ _ _ rfl
    have q8 : E < W8.heap.size ∧ W0.heap.size ≤ E ∧ E ≤ W0.heap.size := by rw [hW8, hE]; simp
    have Hb8 : Hid (W8.cell? ⟨C, 1, none⟩ = some (.slice (some ⟨g, 0, none⟩) n ocap) ∧ W8.cell? ⟨g, j * 3 + 2, none⟩ = some (.slice abo nb cbo)) := ⟨(hb8.cell (p := ⟨C, _, none⟩) (by show C < _; omega)).trans Hb.out.1, (hb8.cell (p := ⟨g, _, none⟩) (by show g < _; omega)).trans Hb.out.2⟩
    have gfz8 := (hb8.frozen (p := ⟨g, j * 3 + 2, none⟩) (by show g < _; omega)).trans gfz0
    have H8 := Lib.hid (And.intro hb8 hst8)
    clear hE hW8 hb8 hst8 gfz0
    refine hK.out _ _ (fun _ => Hb8.out) ?_
    clear hK K
    try go_frame
    refine wpAnyZ_next (i := 12) (by kernel_rfl) (by simp only [List.getElem?_toArray, List.getElem?_cons_succ, List.getElem?_cons_zero]; rfl) (fun K hK => ?_)
    go_simp
    refine hK.out _ _ (fun _ => Hb8.out) ?_
    clear hK K
    try go_frame
    refine wpAnyZ_next (i := 13) (by kernel_rfl) (by simp only [List.getElem?_toArray, List.getElem?_cons_succ, List.getElem?_cons_zero]; rfl) (fun K hK => ?_)
    go_simp
    refine hK.out _ _ (fun _ => Hb8.out) ?_
    clear hK K
    try go_frame
    refine wpAnyZ_next (i := 14) (by kernel_rfl) (by simp only [List.getElem?_toArray, List.getElem?_cons_succ, List.getElem?_cons_zero]; rfl) (fun K hK => ?_)
    have gc8 := Hb8.out.2
    go_simp
    obtain ⟨W9, hW9⟩ : ∃ w : World, w = W8.setCell ⟨g, j * 3 + 2, none⟩ (.slice (some ⟨E, 0, none⟩) 1 1) := ⟨_, rfl⟩
    rw [← hW9]
    have hO9 : Oth (· = g) W8 W9 := by rw [hW9]; exact (Oth.refl (· = g) W8).set (p := ⟨g, j * 3 + 2, none⟩) rfl _
    have hT9 : Turned w6 W9 w5.heap.size g (j * 3 + 2) := by
      have h68 : Below w6.heap.size w6 W8 := H7.out.trans ((H0.out.trans (H8.out.1.mono q0)).mono H7.out.size)
      refine ⟨Nat.le_trans h68.size hO9.size, fun k h1 h2 h3 => (hO9.block k (by omega) h3).trans (h68.block k h2), fun i u hi hu => ?_⟩
      rw [hW9, World.cell?_setCell_other _ _ _ _ (by intro e; cases e; exact hi rfl)]
      exact (h68.cell (p := ⟨g, i, none⟩) hgl.2).trans hu
    have hc9 : W9.cell? ⟨g, j * 3 + 2, none⟩ = some (.slice (some ⟨E, 0, none⟩) 1 1) := by rw [hW9]; exact World.cell?_setCell_same' _ _ _ (by rw [gc8]; rfl)
    have hst9 : StAt W9 E 0 (ifS f.body) (.slice none 0 0) (.slice none 0 0) (.slice abo nb cbo) (.slice none 0 0) (.slice none 0 0) := by
      have kk : ∀ i, W9.cell? ⟨E, i, none⟩ = W8.cell? ⟨E, i, none⟩ := fun i => hO9.cell (p := ⟨E, i, none⟩) (by show E < _; omega) (by show ¬ E = g; omega)
      have h := H8.out.2
      exact ⟨(kk _).trans h.c0, (kk _).trans h.c1, (kk _).trans h.c2, (kk _).trans h.c3, (kk _).trans h.c4, (kk _).trans h.c5, (kk _).trans h.c6, (kk _).trans h.c7, (kk _).trans h.c8, (kk _).trans h.c9, (kk _).trans h.c10, (kk _).trans h.c11, (kk _).trans h.c12, (kk _).trans h.c13⟩
    have HQ : Hid (∀ w' : World, W9.heap.size ≤ w'.heap.size → (∀ k, w5.heap.size ≤ k → k < W9.heap.size → w'.heap[k]? = W9.heap[k]?) → PgIn w' (p.withBody j [ifS f.body]) (.slice (some ⟨gw, 0, none⟩) m ocw) (.slice (some ⟨g, 0, none⟩) n ocap) vp' (setAt vb' j (.slice (some ⟨E, 0, none⟩) 1 1))) := fun w' hs hq => by
      have ks := hO9.size
      have cc : ∀ k i, w5.heap.size ≤ k → k < W9.heap.size → w'.cell? ⟨k, i, none⟩ = W9.cell? ⟨k, i, none⟩ := fun k i h1 h2 => World.cell?_of_block (hq k h1 h2)
      have hT : Turned w6 w' w5.heap.size g (j * 3 + 2) := ⟨by omega, fun k h1 h2 h3 => (hq k h1 (by omega)).trans (hT9.block k h1 h2 h3), fun i u h1 h2 => (cc g i (by omega) (by omega)).trans (hT9.cell i u h1 h2)⟩
      have hbody : StsIn w' f.body (.slice abo nb cbo) := by
        have e := HO.out.fns.each j f (by rw [← Hl.out.2]; exact hjn) Hf.out.1
        have r := HO.out.fns.rng j (by rw [← Hl.out.2]; exact hjn)
        have o := e.ord
        rw [← Hvb.out]
        exact (e.body.apart (by have := hT.size; omega) fun k k1 k2 => hT.block k (by omega) (by omega) fun e => r.2.2 (by omega)).reads
      have h := hst9
      have this := HO.out.turned Hf.out.1 hT ((cc g _ (by omega) (by omega)).trans hc9) (ifS_in (E := E) ⟨(cc E _ (by omega) (by omega)).trans h.c0, (cc E _ (by omega) (by omega)).trans h.c1, (cc E _ (by omega) (by omega)).trans h.c2, (cc E _ (by omega) (by omega)).trans h.c3, (cc E _ (by omega) (by omega)).trans h.c4, (cc E _ (by omega) (by omega)).trans h.c5, (cc E _ (by omega) (by omega)).trans h.c6, (cc E _ (by omega) (by omega)).trans h.c7, (cc E _ (by omega) (by omega)).trans h.c8, (cc E _ (by omega) (by omega)).trans h.c9, (cc E _ (by omega) (by omega)).trans h.c10, (cc E _ (by omega) (by omega)).trans h.c11, (cc E _ (by omega) (by omega)).trans h.c12, (cc E _ (by omega) (by omega)).trans h.c13⟩ (by omega) hbody)
      rw [← Hl.out.1, ← Hl.out.2] at this
      exact this
    have h79 : ∀ b i, b < W7.heap.size → b ≠ g → W9.cell? ⟨b, i, none⟩ = W7.cell? ⟨b, i, none⟩ ∧ W9.frozen? ⟨b, i, none⟩ = W7.frozen? ⟨b, i, none⟩ := fun b i h1 h2 =>
      ⟨(hO9.cell (p := ⟨b, i, none⟩) (by show b < _; omega) h2).trans ((H8.out.1.cell (p := ⟨b, i, none⟩) (by show b < _; omega)).trans (H0.out.cell (p := ⟨b, i, none⟩) h1)), (hO9.frozen (p := ⟨b, i, none⟩) (by show b < _; omega) h2).trans ((H8.out.1.frozen (p := ⟨b, i, none⟩) (by show b < _; omega)).trans (H0.out.frozen (p := ⟨b, i, none⟩) h1))⟩
    have hWW : Below W.heap.size W W9 := by
      have h1 : Below W.heap.size W W8 := H6.out.2.trans ((H7.out.trans ((H0.out.trans (H8.out.1.mono q0)).mono H7.out.size)).mono H6.out.2.size)
      exact h1.trans (hO9.below h1.size fun k e => by have := H5.out.1.size; omega)
    have hs9 : W7.heap.size ≤ W9.heap.size := by have := hO9.size; omega
    have H9 := Lib.hid hWW
    have H9c : Hid (W9.cell? ⟨B, 0, none⟩ = some (.slice aw m cw) ∧ W9.cell? ⟨B, 1, none⟩ = some (.slice a n cap) ∧ W9.cell? ⟨C, 0, none⟩ = some (.slice (some ⟨gw, 0, none⟩) m ocw) ∧ W9.cell? ⟨C, 1, none⟩ = some (.slice (some ⟨g, 0, none⟩) n ocap) ∧ W9.cell? ⟨D, 0, none⟩ = some (.int .i64 ea) ∧ W9.cell? ⟨D, 1, none⟩ = some (.int .i64 eb) ∧ W9.cell? ⟨D, 2, none⟩ = some (.int .i64 ec) ∧ W9.frozen? ⟨D, 2, none⟩ = false) := by
      obtain ⟨k1, k2, k3, k4, k5, k6, k7, k8⟩ := H7c.out
      have hBg : B ≠ g ∧ D ≠ g ∧ C ≠ g := by omega
      exact ⟨(h79 B _ (by omega) hBg.1).1.trans k1, (h79 B _ (by omega) hBg.1).1.trans k2, (h79 C _ (by omega) hBg.2.2).1.trans k3, (h79 C _ (by omega) hBg.2.2).1.trans k4, (h79 D _ (by omega) hBg.2.1).1.trans k5, (h79 D _ (by omega) hBg.2.1).1.trans k6, (h79 D _ (by omega) hBg.2.1).1.trans k7, (h79 D _ (by omega) hBg.2.1).2.trans k8⟩
    clear hO9 hT9 hc9 hst9 h79 hWW hW9 gc8 gfz8
    refine hK.out _ _ (fun h => absurd rfl h) ?_
    clear hK K
    refine wpAnyZ_done (by kernel_rfl) ?_ _
    obtain ⟨c0, c1, d0, d1, f0, f1, f2, fz⟩ := H9c.out
    go_wp2_with fail
    refine (check_any _ _ _ _ _ W9 (HQ.out W9 (Nat.le_refl _) fun _ _ _ => rfl)).mono ?_
    rintro e w10 ⟨rfl, hb10⟩
    obtain ⟨u, hu2⟩ : ∃ u, u = (p.withBody j [ifS f.body]).fault := ⟨_, rfl⟩
    rw [← hu2]
    have Hu2 := Lib.hid hu2
    obtain ⟨xa, xb, xc⟩ := u
    unfold fltV
    have q10 := hb10.size
    have H10 : Hid (Below W.heap.size W w10) := H9.out.trans (hb10.mono H9.out.size)
    have Hb10 := Lib.hid hb10
    have qq : B < W9.heap.size ∧ C < W9.heap.size ∧ D < W9.heap.size := by omega
    rw [← hb10.cell (p := ⟨B, _, none⟩) qq.1] at c0 c1
    rw [← hb10.cell (p := ⟨C, _, none⟩) qq.2.1] at d0 d1
    rw [← hb10.cell (p := ⟨D, _, none⟩) qq.2.2] at f0 f1 f2
    rw [← hb10.frozen (p := ⟨D, _, none⟩) qq.2.2] at fz
    clear hu2 hb10
    by_cases hx : xa = 0
    · subst hx
      obtain ⟨ec2, hec2⟩ : ∃ e, e = (bumpF j (ea, eb, ec)).2.2 := ⟨_, rfl⟩
      have Hnf : Hid ((p.withBody j [ifS f.body]).nfault = (ea, eb, ec2)) := by
        show _ = _
        rw [wrap_nfault Hf.out.1 Hf.out.2 (by rw [← Hu2.out]), ← Ht.out, hec2]
        unfold bumpF
        split <;> rfl
      have Hnc : Hid ((p.withBody j [ifS f.body]).ncalls (j : Int) = p.ncalls (j : Int)) := wrap_ncalls Hf.out.1 Hf.out.2 (by rw [← Hu2.out])
      have hlow : 0 ≤ ec ∧ ec ≤ 4096 := by have := Pg.nfault_low Hf.out.2; rw [← Ht.out] at this; exact this
      obtain ⟨hlow1, hlow2⟩ := hlow
      have hcase : (ea = 0 ∧ ec2 = ec) ∨ (ea ≠ 0 ∧ eb ≠ (j : Int) ∧ ec2 = ec) ∨ (ea ≠ 0 ∧ eb = (j : Int) ∧ ¬ 0 < ec ∧ ec2 = ec) ∨ (ea ≠ 0 ∧ eb = (j : Int) ∧ 0 < ec ∧ ec2 = ec + 1) := by
        rw [hec2]
        unfold bumpF
        by_cases h1 : ea = 0
        · exact .inl ⟨h1, by rw [if_neg (fun h => h.1 h1)]⟩
        · by_cases h2 : eb = (j : Int)
          · by_cases h3 : 0 < ec
            · exact .inr (.inr (.inr ⟨h1, h2, h3, by rw [if_pos ⟨h1, h2, h3⟩]⟩))
            · exact .inr (.inr (.inl ⟨h1, h2, h3, by rw [if_neg (fun h => h3 h.2.2)]⟩))
          · exact .inr (.inl ⟨h1, h2, by rw [if_neg (fun h => h2 h.2.1)]⟩)
      clear hec2
      rcases hcase with ⟨e1, e2⟩ | ⟨e1, e2, e3⟩ | ⟨e1, e2, e3, e4⟩ | ⟨e1, e2, e3, e4⟩
      · have b1 : (ea != 0) = false := by simpa using e1
        have He := Lib.hid e2
        clear e1 e2
        go_upto_region 12 with (fail)
        obtain ⟨W11, hW11⟩ : ∃ w : World, w = w10 := ⟨_, rfl⟩
        rw [← hW11]
        have q11 : W9.heap.size ≤ W11.heap.size := by rw [hW11]; exact q10
        have H11 : Hid (Below W.heap.size W W11 ∧ PgIn W11 (p.withBody j [ifS f.body]) (.slice (some ⟨gw, 0, none⟩) m ocw) (.slice (some ⟨g, 0, none⟩) n ocap) vp' (setAt vb' j (.slice (some ⟨E, 0, none⟩) 1 1)) ∧ ((W11.cell? ⟨B, 0, none⟩ = some (.slice aw m cw) ∧ W11.cell? ⟨B, 1, none⟩ = some (.slice a n cap)) ∧ W11.cell? ⟨C, 0, none⟩ = some (.slice (some ⟨gw, 0, none⟩) m ocw) ∧ W11.cell? ⟨C, 1, none⟩ = some (.slice (some ⟨g, 0, none⟩) n ocap)) ∧ W11.cell? ⟨D, 0, none⟩ = some (.int .i64 ea) ∧ W11.cell? ⟨D, 1, none⟩ = some (.int .i64 eb) ∧ W11.cell? ⟨D, 2, none⟩ = some (.int .i64 ec2)) := by
          rw [hW11, He.out]
          exact ⟨H10.out, HQ.out w10 q10 fun k _ h => Hb10.out.block k h, ⟨⟨c0, c1⟩, d0, d1⟩, f0, f1, f2⟩
        clear hW11 c0 c1 d0 d1 f0 f1 f2 fz b1 He
        obtain ⟨⟨⟨c0, c1⟩, d0, d1⟩, f0, f1, f2⟩ := H11.out.2.2
        obtain ⟨l, hl⟩ : ∃ l, l = p.ncalls (j : Int) := ⟨_, rfl⟩
        obtain ⟨L, hL⟩ : ∃ L, L = l.length := ⟨_, rfl⟩
        have Hll := Lib.hid (And.intro hl hL)
        clear hl hL
        obtain ⟨B0, hBe⟩ : ∃ B0, B0 = W11.heap.size := ⟨_, rfl⟩
        have hBD : B < B0 ∧ D < B0 ∧ C < B0 := by omega
        refine wp_region_held (S := Below B0 W11.drew) rfl ?_
        change wpAnyH _ _ _ _ (Below B0 W11.drew) _ _ _ W11.drew
        obtain ⟨W12, hW12⟩ : ∃ W0, W0 = W11.drew := ⟨_, rfl⟩
        rw [← hW12]
        have hb12 : Below W11.heap.size W11 W12 := by rw [hW12]; exact (Below.refl _ _).drew
        have hB12 : B0 ≤ W12.heap.size := by rw [hBe]; exact hb12.size
        have hb12' : Below B0 W11 W12 := by rw [hBe]; exact hb12
        have Hfc : Hid (∀ W, Below B0 W12 W → (((W.cell? ⟨B, 0, none⟩ = some (.slice aw m cw) ∧ W.cell? ⟨B, 1, none⟩ = some (.slice a n cap)) ∧ W.cell? ⟨C, 0, none⟩ = some (.slice (some ⟨gw, 0, none⟩) m ocw) ∧ W.cell? ⟨C, 1, none⟩ = some (.slice (some ⟨g, 0, none⟩) n ocap)) ∧ W.cell? ⟨D, 0, none⟩ = some (.int .i64 ea) ∧ W.cell? ⟨D, 1, none⟩ = some (.int .i64 eb) ∧ W.cell? ⟨D, 2, none⟩ = some (.int .i64 ec2))) := fun W hb => by
          have k := fun q j (h : q < B0) => (hb12'.trans hb).cell (p := ⟨q, j, none⟩) h
          exact ⟨⟨⟨(k _ _ hBD.1).trans c0, (k _ _ hBD.1).trans c1⟩, (k _ _ hBD.2.2).trans d0, (k _ _ hBD.2.2).trans d1⟩, (k _ _ hBD.2.1).trans f0, (k _ _ hBD.2.1).trans f1, (k _ _ hBD.2.1).trans f2⟩
        have HQf : Hid (∀ W', Below B0 W12 W' → PgIn W' (p.withBody j [ifS f.body]) (.slice (some ⟨gw, 0, none⟩) m ocw) (.slice (some ⟨g, 0, none⟩) n ocap) vp' (setAt vb' j (.slice (some ⟨E, 0, none⟩) 1 1)) ∧ PgIn W' p (.slice aw m cw) (.slice a n cap) vp vb ∧ Below W.heap.size W W') := fun W' hb => by
          have h := hb12'.trans hb
          rw [hBe] at h
          exact ⟨H11.out.2.1.later h, HP.out.later (H11.out.1.trans (h.mono H11.out.1.size)), H11.out.1.trans (h.mono H11.out.1.size)⟩
        have Hb12 : Hid (Below B0 W12 W12) := Below.refl _ _
        clear hb12 hb12' hW12 hBe c0 c1 d0 d1 f0 f1 f2
        refine wpAnyH_take (i := 0) (by simp only [List.getElem?_toArray, List.getElem?_cons_zero]; rfl) (by kernel_rfl) (by kernel_rfl) (by kernel_rfl) (by intro _ _ _ h; exact h) (Or.inl ⟨by rfl, fun w hw => by (obtain ⟨⟨⟨c0, c1⟩, d0, d1⟩, f0, f1, f2⟩ := Hfc.out w hw; go_simp; try rfl)⟩) Hb12.out ?_
        refine wpAnyH_take (i := 1) (by simp only [List.getElem?_toArray, List.getElem?_cons_succ, List.getElem?_cons_zero]; rfl) (by kernel_rfl) (by kernel_rfl) (by kernel_rfl) (by intro _ _ _ h; exact h) (Or.inl ⟨by rfl, fun w hw => by (obtain ⟨⟨⟨c0, c1⟩, d0, d1⟩, f0, f1, f2⟩ := Hfc.out w hw; go_simp; try rfl)⟩) Hb12.out ?_
        go_frame
        refine wpAnyH_take (i := 3) (by simp only [List.getElem?_toArray, List.getElem?_cons_succ, List.getElem?_cons_zero]; rfl) (by kernel_rfl) (by kernel_rfl) (by kernel_rfl) (by intro _ _ _ h; exact h) (Or.inl ⟨by rfl, fun w hw => by (obtain ⟨⟨⟨c0, c1⟩, d0, d1⟩, f0, f1, f2⟩ := Hfc.out w hw; go_simp; try rfl)⟩) Hb12.out ?_
        go_frame
        refine wpAnyH_take (i := 4) (by simp only [List.getElem?_toArray, List.getElem?_cons_succ, List.getElem?_cons_zero]; rfl) (by kernel_rfl) (by kernel_rfl) (by kernel_rfl) (by intro _ _ _ h; exact h) (Or.inl ⟨by rfl, fun w hw => by (obtain ⟨⟨⟨c0, c1⟩, d0, d1⟩, f0, f1, f2⟩ := Hfc.out w hw; go_simp; try rfl)⟩) Hb12.out ?_
        go_frame
        refine wpAnyH_ready (rs := [2]) (by kernel_rfl) (by simp) ?_
        refine AllReadyH.cons rfl (fun K hK => ?_) AllReadyH.nil
        go_simp
        refine (ncalls_any p (.slice aw m cw) (.slice a n cap) vp vb (j : Int) W12 (HQf.out W12 Hb12.out).2.1).mono ?_
        rintro e w13 ⟨v13, rfl, ho13, hb13⟩
        rw [← Hll.out.1] at ho13
        obtain ⟨a13, c13, hv13, hc13⟩ := (IntsIn.row (SliceIn.of_owns ho13)).form
        subst hv13
        rw [← Hll.out.2] at ho13 hc13 ⊢
        have Hb13 : Hid (Below B0 W12 w13) := hb13.mono hB12
        have Ho13 := Lib.hid ho13
        clear hb13 ho13
        refine hK.out _ _ Hb13.out (fun _ => ?_)
        clear hK K
        refine wpAnyH_ready (rs := [5]) (by kernel_rfl) (by simp) ?_
        refine AllReadyH.cons rfl (fun K hK => ?_) AllReadyH.nil
        go_simp
        refine (ncalls_any _ _ _ _ _ (j : Int) w13 (HQf.out w13 Hb13.out).1).mono ?_
        rintro e w14 ⟨v14, rfl, ho14, hb14⟩
        rw [Hnc.out, ← Hll.out.1] at ho14
        obtain ⟨a14, c14, hv14, hc14⟩ := (IntsIn.row (SliceIn.of_owns ho14)).form
        subst hv14
        rw [← Hll.out.2] at ho14 hc14 ⊢
        have Hb14 : Hid (Below B0 W12 w14) := Hb13.out.trans (hb14.mono (Nat.le_trans hB12 Hb13.out.size))
        have Hr : Hid (RowOf w14 (.slice a13 L c13) L 1 (fun b o i => ∀ x, l[i]? = some x → w14.cell? ⟨b, o, none⟩ = some (.int .i64 x)) ∧ RowOf w14 (.slice a14 L c14) L 1 (fun b o i => ∀ x, l[i]? = some x → w14.cell? ⟨b, o, none⟩ = some (.int .i64 x))) := by
          rw [Hll.out.2]
          have h1 := IntsIn.row (SliceIn.later (SliceIn.of_owns Ho13.out) hb14)
          have h2 := IntsIn.row (SliceIn.of_owns ho14)
          rw [Hll.out.2] at h1 h2
          exact ⟨h1, h2⟩
        have hL62 : L ≤ 9223372036854775807 := by have : maxLen ≤ 9223372036854775807 := by decide
                                                  omega
        clear hb14 ho14 Ho13
        refine hK.out _ _ Hb14.out (fun _ => ?_)
        clear hK K
        refine wpAnyH_take (i := 6) (by simp only [List.getElem?_toArray, List.getElem?_cons_succ, List.getElem?_cons_zero]; rfl) (by kernel_rfl) (by kernel_rfl) (by kernel_rfl) (by intro _ _ _ h; exact h) (Or.inl ⟨by rfl, fun w hw => by (skip; go_simp; try rfl)⟩) Hb14.out ?_
        refine wpAnyH_take (i := 7) (by simp only [List.getElem?_toArray, List.getElem?_cons_succ, List.getElem?_cons_zero]; rfl) (by kernel_rfl) (by kernel_rfl) (by kernel_rfl) (by intro _ _ _ h; exact h) (Or.inl ⟨by rfl, fun w hw => by (skip; go_simp; try rfl)⟩) Hb14.out ?_
        go_frame
        refine wpAnyH_done (by kernel_rfl) ?_ _
        go_wp2_with fail
        go_loopg [90] L (fun gk iv wx => ∃ i : Nat, gk = L - i ∧ iv = .int .i64 (i : Int) ∧ i ≤ L ∧ Below w14.heap.size w14 wx)
        case atStart => exact ⟨0, rfl, rfl, Nat.zero_le _, Below.refl _ _⟩
        case round =>
          obtain ⟨i, hgk, rfl, hi, hbw⟩ := hrel
          have Hg := Lib.hid hgk
          have Hbw := Lib.hid hbw
          clear hgk hbw
          by_cases hiL : i < L
          · obtain ⟨y, hy⟩ : ∃ y, l[i]? = some y := ⟨_, List.getElem?_eq_getElem (by rw [← Hll.out.2]; exact hiL)⟩
            obtain ⟨b1, o1, rfl, hb1, hp1⟩ := Hr.out.1.at (i := i) hiL
            obtain ⟨b2, o2, rfl, hb2, hp2⟩ := Hr.out.2.at (i := i) hiL
            have e1 := (Hbw.out.cell (p := ⟨b1, _, none⟩) hb1).trans (hp1 y hy)
            have e2 := (Hbw.out.cell (p := ⟨b2, _, none⟩) hb2).trans (hp2 y hy)
            rw [Nat.mul_one] at e1 e2
            have hbb : b1 < wr.heap.size ∧ b2 < wr.heap.size := by have := Hbw.out.size; omega
            clear hp1 hp2 hy
            go_upto_region 18 with (fail)
            refine wp_region_held (S := Below wr.heap.size wr.drew) rfl ?_
            change wpAnyH _ _ _ _ (Below wr.heap.size wr.drew) _ _ _ wr.drew
            obtain ⟨W15, hW15⟩ : ∃ W0, W0 = wr.drew := ⟨_, rfl⟩
            rw [← hW15]
            have hb15 : Below wr.heap.size wr W15 := by rw [hW15]; exact (Below.refl _ _).drew
            have Hf2 : Hid (∀ W, Below wr.heap.size W15 W → W.cell? ⟨b1, o1 + i, none⟩ = some (.int .i64 y) ∧ W.cell? ⟨b2, o2 + i, none⟩ = some (.int .i64 y)) := fun W hb =>
              ⟨((hb15.trans hb).cell (p := ⟨b1, _, none⟩) hbb.1).trans e1, ((hb15.trans hb).cell (p := ⟨b2, _, none⟩) hbb.2).trans e2⟩
            have Hb15 : Hid (Below wr.heap.size W15 W15) := Below.refl _ _
            have H15 := Lib.hid hb15
            clear hb15 hW15 e1 e2
            refine wpAnyH_take (i := 0) (by simp only [List.getElem?_toArray, List.getElem?_cons_zero]; rfl) (by kernel_rfl) (by kernel_rfl) (by kernel_rfl) (by intro _ _ _ h; exact h) (Or.inl ⟨by rfl, fun w hw => by (obtain ⟨e1, e2⟩ := Hf2.out w hw; go_simp; try rfl)⟩) Hb15.out ?_
            refine wpAnyH_take (i := 1) (by simp only [List.getElem?_toArray, List.getElem?_cons_succ, List.getElem?_cons_zero]; rfl) (by kernel_rfl) (by kernel_rfl) (by kernel_rfl) (by intro _ _ _ h; exact h) (Or.inl ⟨by rfl, fun w hw => by (obtain ⟨e1, e2⟩ := Hf2.out w hw; go_simp; try rfl)⟩) Hb15.out ?_
            go_frame
            refine wpAnyH_take (i := 2) (by simp only [List.getElem?_toArray, List.getElem?_cons_succ, List.getElem?_cons_zero]; rfl) (by kernel_rfl) (by kernel_rfl) (by kernel_rfl) (by intro _ _ _ h; exact h) (Or.inl ⟨by rfl, fun w hw => by (obtain ⟨e1, e2⟩ := Hf2.out w hw; go_simp; try rfl)⟩) Hb15.out ?_
            refine wpAnyH_take (i := 3) (by simp only [List.getElem?_toArray, List.getElem?_cons_succ, List.getElem?_cons_zero]; rfl) (by kernel_rfl) (by kernel_rfl) (by kernel_rfl) (by intro _ _ _ h; exact h) (Or.inl ⟨by rfl, fun w hw => by (obtain ⟨e1, e2⟩ := Hf2.out w hw; go_simp; try rfl)⟩) Hb15.out ?_
            go_frame
            refine wpAnyH_take (i := 4) (by simp only [List.getElem?_toArray, List.getElem?_cons_succ, List.getElem?_cons_zero]; rfl) (by kernel_rfl) (by kernel_rfl) (by kernel_rfl) (by intro _ _ _ h; exact h) (Or.inl ⟨by rfl, fun w hw => by (obtain ⟨e1, e2⟩ := Hf2.out w hw; go_simp; try rfl)⟩) Hb15.out ?_
            refine wpAnyH_take (i := 5) (by simp only [List.getElem?_toArray, List.getElem?_cons_succ, List.getElem?_cons_zero]; rfl) (by kernel_rfl) (by kernel_rfl) (by kernel_rfl) (by intro _ _ _ h; exact h) (Or.inl ⟨by rfl, fun w hw => by (obtain ⟨e1, e2⟩ := Hf2.out w hw; go_simp; try rfl)⟩) Hb15.out ?_
            go_frame
            refine wpAnyH_take (i := 6) (by simp only [List.getElem?_toArray, List.getElem?_cons_succ, List.getElem?_cons_zero]; rfl) (by kernel_rfl) (by kernel_rfl) (by kernel_rfl) (by intro _ _ _ h; exact h) (Or.inl ⟨by rfl, fun w hw => by (obtain ⟨e1, e2⟩ := Hf2.out w hw; go_simp; try rfl)⟩) Hb15.out ?_
            refine wpAnyH_take (i := 7) (by simp only [List.getElem?_toArray, List.getElem?_cons_succ, List.getElem?_cons_zero]; rfl) (by kernel_rfl) (by kernel_rfl) (by kernel_rfl) (by intro _ _ _ h; exact h) (Or.inl ⟨by rfl, fun w hw => by (obtain ⟨e1, e2⟩ := Hf2.out w hw; go_simp; try rfl)⟩) Hb15.out ?_
            go_frame
            refine wpAnyH_take (i := 8) (by simp only [List.getElem?_toArray, List.getElem?_cons_succ, List.getElem?_cons_zero]; rfl) (by kernel_rfl) (by kernel_rfl) (by kernel_rfl) (by intro _ _ _ h; exact h) (Or.inl ⟨by rfl, fun w hw => by (obtain ⟨e1, e2⟩ := Hf2.out w hw; go_simp; try rfl)⟩) Hb15.out ?_
            go_frame
            refine wpAnyH_done (by kernel_rfl) ?_ _
            go_wp2_with fail
            go_roundg (L - (i + 1))
            case measure => have := Hg.out; omega
            case rel => exact ⟨i + 1, rfl, by go_num, hiL, Hbw.out.trans (H15.out.mono Hbw.out.size)⟩
          · obtain rfl : L = i := by omega
            go_wp2_with fail
            have Hbr : Hid (Below B0 W12 wr) := Hb14.out.trans (Hbw.out.mono (Nat.le_trans hB12 Hb14.out.size))
            refine wp_region_held (S := Below B0 wr.drew) rfl ?_
            change wpAnyH _ _ _ _ (Below B0 wr.drew) _ _ _ wr.drew
            obtain ⟨W15, hW15⟩ : ∃ W0, W0 = wr.drew := ⟨_, rfl⟩
            rw [← hW15]
            have hb15 : Below B0 W12 W15 := by rw [hW15]; exact Hbr.out.drew
            have hB15 : B0 ≤ W15.heap.size := Nat.le_trans hB12 hb15.size
            have H15 := Lib.hid hb15
            have Hb15 : Hid (Below B0 W15 W15) := Below.refl _ _
            clear hW15 hb15
            refine wpAnyH_take (i := 0) (by simp only [List.getElem?_toArray, List.getElem?_cons_zero]; rfl) (by kernel_rfl) (by kernel_rfl) (by kernel_rfl) (by intro _ _ _ h; exact h) (Or.inl ⟨by rfl, fun w hw => by (obtain ⟨⟨⟨c0, c1⟩, d0, d1⟩, f0, f1, f2⟩ := Hfc.out w (H15.out.trans hw); go_simp; try rfl)⟩) Hb15.out ?_
            go_frame
            refine wpAnyH_take (i := 2) (by simp only [List.getElem?_toArray, List.getElem?_cons_succ, List.getElem?_cons_zero]; rfl) (by kernel_rfl) (by kernel_rfl) (by kernel_rfl) (by intro _ _ _ h; exact h) (Or.inl ⟨by rfl, fun w hw => by (obtain ⟨⟨⟨c0, c1⟩, d0, d1⟩, f0, f1, f2⟩ := Hfc.out w (H15.out.trans hw); go_simp; try rfl)⟩) Hb15.out ?_
            go_frame
            refine wpAnyH_ready (rs := [1]) (by kernel_rfl) (by simp) ?_
            refine AllReadyH.cons rfl (fun K hK => ?_) AllReadyH.nil
            go_simp
            refine (ncheck_any _ _ _ _ _ W15 (HQf.out W15 H15.out).1).mono ?_
            rintro e w16 ⟨rfl, hb16⟩
            rw [Hnf.out]
            unfold fltV
            have Hb16 : Hid (Below B0 W15 w16) := hb16.mono hB15
            clear hb16
            refine hK.out _ _ Hb16.out (fun _ => ?_)
            clear hK K
            refine wpAnyH_take (i := 3) (by simp only [List.getElem?_toArray, List.getElem?_cons_succ, List.getElem?_cons_zero]; rfl) (by kernel_rfl) (by kernel_rfl) (by kernel_rfl) (by intro _ _ _ h; exact h) (Or.inl ⟨by rfl, fun w hw => by (skip; go_simp; try rfl)⟩) Hb16.out ?_
            go_frame
            refine wpAnyH_take (i := 4) (by simp only [List.getElem?_toArray, List.getElem?_cons_succ, List.getElem?_cons_zero]; rfl) (by kernel_rfl) (by kernel_rfl) (by kernel_rfl) (by intro _ _ _ h; exact h) (Or.inl ⟨by rfl, fun w hw => by (skip; go_simp; try rfl)⟩) Hb16.out ?_
            go_frame
            refine wpAnyH_done (by kernel_rfl) ?_ _
            go_wp2_with fail
            go_ret
            exact ⟨by rfl, (HQf.out w16 (H15.out.trans Hb16.out)).2.2⟩
      · have b1 : (ea != 0) = true := by simpa using e1
        have b2 : (eb == (j : Int)) = false := by simpa using e2
        have He := Lib.hid e3
        clear e1 e2 e3
        go_upto_region 12 with (fail)
        obtain ⟨W11, hW11⟩ : ∃ w : World, w = w10 := ⟨_, rfl⟩
        rw [← hW11]
        have q11 : W9.heap.size ≤ W11.heap.size := by rw [hW11]; exact q10
        have H11 : Hid (Below W.heap.size W W11 ∧ PgIn W11 (p.withBody j [ifS f.body]) (.slice (some ⟨gw, 0, none⟩) m ocw) (.slice (some ⟨g, 0, none⟩) n ocap) vp' (setAt vb' j (.slice (some ⟨E, 0, none⟩) 1 1)) ∧ ((W11.cell? ⟨B, 0, none⟩ = some (.slice aw m cw) ∧ W11.cell? ⟨B, 1, none⟩ = some (.slice a n cap)) ∧ W11.cell? ⟨C, 0, none⟩ = some (.slice (some ⟨gw, 0, none⟩) m ocw) ∧ W11.cell? ⟨C, 1, none⟩ = some (.slice (some ⟨g, 0, none⟩) n ocap)) ∧ W11.cell? ⟨D, 0, none⟩ = some (.int .i64 ea) ∧ W11.cell? ⟨D, 1, none⟩ = some (.int .i64 eb) ∧ W11.cell? ⟨D, 2, none⟩ = some (.int .i64 ec2)) := by
          rw [hW11, He.out]
          exact ⟨H10.out, HQ.out w10 q10 fun k _ h => Hb10.out.block k h, ⟨⟨c0, c1⟩, d0, d1⟩, f0, f1, f2⟩
        clear hW11 c0 c1 d0 d1 f0 f1 f2 fz b1 b2 He
        obtain ⟨⟨⟨c0, c1⟩, d0, d1⟩, f0, f1, f2⟩ := H11.out.2.2
        obtain ⟨l, hl⟩ : ∃ l, l = p.ncalls (j : Int) := ⟨_, rfl⟩
        obtain ⟨L, hL⟩ : ∃ L, L = l.length := ⟨_, rfl⟩
        have Hll := Lib.hid (And.intro hl hL)
        clear hl hL
        obtain ⟨B0, hBe⟩ : ∃ B0, B0 = W11.heap.size := ⟨_, rfl⟩
        have hBD : B < B0 ∧ D < B0 ∧ C < B0 := by omega
        refine wp_region_held (S := Below B0 W11.drew) rfl ?_
        change wpAnyH _ _ _ _ (Below B0 W11.drew) _ _ _ W11.drew
        obtain ⟨W12, hW12⟩ : ∃ W0, W0 = W11.drew := ⟨_, rfl⟩
        rw [← hW12]
        have hb12 : Below W11.heap.size W11 W12 := by rw [hW12]; exact (Below.refl _ _).drew
        have hB12 : B0 ≤ W12.heap.size := by rw [hBe]; exact hb12.size
        have hb12' : Below B0 W11 W12 := by rw [hBe]; exact hb12
        have Hfc : Hid (∀ W, Below B0 W12 W → (((W.cell? ⟨B, 0, none⟩ = some (.slice aw m cw) ∧ W.cell? ⟨B, 1, none⟩ = some (.slice a n cap)) ∧ W.cell? ⟨C, 0, none⟩ = some (.slice (some ⟨gw, 0, none⟩) m ocw) ∧ W.cell? ⟨C, 1, none⟩ = some (.slice (some ⟨g, 0, none⟩) n ocap)) ∧ W.cell? ⟨D, 0, none⟩ = some (.int .i64 ea) ∧ W.cell? ⟨D, 1, none⟩ = some (.int .i64 eb) ∧ W.cell? ⟨D, 2, none⟩ = some (.int .i64 ec2))) := fun W hb => by
          have k := fun q j (h : q < B0) => (hb12'.trans hb).cell (p := ⟨q, j, none⟩) h
          exact ⟨⟨⟨(k _ _ hBD.1).trans c0, (k _ _ hBD.1).trans c1⟩, (k _ _ hBD.2.2).trans d0, (k _ _ hBD.2.2).trans d1⟩, (k _ _ hBD.2.1).trans f0, (k _ _ hBD.2.1).trans f1, (k _ _ hBD.2.1).trans f2⟩
        have HQf : Hid (∀ W', Below B0 W12 W' → PgIn W' (p.withBody j [ifS f.body]) (.slice (some ⟨gw, 0, none⟩) m ocw) (.slice (some ⟨g, 0, none⟩) n ocap) vp' (setAt vb' j (.slice (some ⟨E, 0, none⟩) 1 1)) ∧ PgIn W' p (.slice aw m cw) (.slice a n cap) vp vb ∧ Below W.heap.size W W') := fun W' hb => by
          have h := hb12'.trans hb
          rw [hBe] at h
          exact ⟨H11.out.2.1.later h, HP.out.later (H11.out.1.trans (h.mono H11.out.1.size)), H11.out.1.trans (h.mono H11.out.1.size)⟩
        have Hb12 : Hid (Below B0 W12 W12) := Below.refl _ _
        clear hb12 hb12' hW12 hBe c0 c1 d0 d1 f0 f1 f2
        refine wpAnyH_take (i := 0) (by simp only [List.getElem?_toArray, List.getElem?_cons_zero]; rfl) (by kernel_rfl) (by kernel_rfl) (by kernel_rfl) (by intro _ _ _ h; exact h) (Or.inl ⟨by rfl, fun w hw => by (obtain ⟨⟨⟨c0, c1⟩, d0, d1⟩, f0, f1, f2⟩ := Hfc.out w hw; go_simp; try rfl)⟩) Hb12.out ?_
        refine wpAnyH_take (i := 1) (by simp only [List.getElem?_toArray, List.getElem?_cons_succ, List.getElem?_cons_zero]; rfl) (by kernel_rfl) (by kernel_rfl) (by kernel_rfl) (by intro _ _ _ h; exact h) (Or.inl ⟨by rfl, fun w hw => by (obtain ⟨⟨⟨c0, c1⟩, d0, d1⟩, f0, f1, f2⟩ := Hfc.out w hw; go_simp; try rfl)⟩) Hb12.out ?_
        go_frame
        refine wpAnyH_take (i := 3) (by simp only [List.getElem?_toArray, List.getElem?_cons_succ, List.getElem?_cons_zero]; rfl) (by kernel_rfl) (by kernel_rfl) (by kernel_rfl) (by intro _ _ _ h; exact h) (Or.inl ⟨by rfl, fun w hw => by (obtain ⟨⟨⟨c0, c1⟩, d0, d1⟩, f0, f1, f2⟩ := Hfc.out w hw; go_simp; try rfl)⟩) Hb12.out ?_
        go_frame
        refine wpAnyH_take (i := 4) (by simp only [List.getElem?_toArray, List.getElem?_cons_succ, List.getElem?_cons_zero]; rfl) (by kernel_rfl) (by kernel_rfl) (by kernel_rfl) (by intro _ _ _ h; exact h) (Or.inl ⟨by rfl, fun w hw => by (obtain ⟨⟨⟨c0, c1⟩, d0, d1⟩, f0, f1, f2⟩ := Hfc.out w hw; go_simp; try rfl)⟩) Hb12.out ?_
        go_frame
        refine wpAnyH_ready (rs := [2]) (by kernel_rfl) (by simp) ?_
        refine AllReadyH.cons rfl (fun K hK => ?_) AllReadyH.nil
        go_simp
        refine (ncalls_any p (.slice aw m cw) (.slice a n cap) vp vb (j : Int) W12 (HQf.out W12 Hb12.out).2.1).mono ?_
        rintro e w13 ⟨v13, rfl, ho13, hb13⟩
        rw [← Hll.out.1] at ho13
        obtain ⟨a13, c13, hv13, hc13⟩ := (IntsIn.row (SliceIn.of_owns ho13)).form
        subst hv13
        rw [← Hll.out.2] at ho13 hc13 ⊢
        have Hb13 : Hid (Below B0 W12 w13) := hb13.mono hB12
        have Ho13 := Lib.hid ho13
        clear hb13 ho13
        refine hK.out _ _ Hb13.out (fun _ => ?_)
        clear hK K
        refine wpAnyH_ready (rs := [5]) (by kernel_rfl) (by simp) ?_
        refine AllReadyH.cons rfl (fun K hK => ?_) AllReadyH.nil
        go_simp
        refine (ncalls_any _ _ _ _ _ (j : Int) w13 (HQf.out w13 Hb13.out).1).mono ?_
        rintro e w14 ⟨v14, rfl, ho14, hb14⟩
        rw [Hnc.out, ← Hll.out.1] at ho14
        obtain ⟨a14, c14, hv14, hc14⟩ := (IntsIn.row (SliceIn.of_owns ho14)).form
        subst hv14
        rw [← Hll.out.2] at ho14 hc14 ⊢
        have Hb14 : Hid (Below B0 W12 w14) := Hb13.out.trans (hb14.mono (Nat.le_trans hB12 Hb13.out.size))
        have Hr : Hid (RowOf w14 (.slice a13 L c13) L 1 (fun b o i => ∀ x, l[i]? = some x → w14.cell? ⟨b, o, none⟩ = some (.int .i64 x)) ∧ RowOf w14 (.slice a14 L c14) L 1 (fun b o i => ∀ x, l[i]? = some x → w14.cell? ⟨b, o, none⟩ = some (.int .i64 x))) := by
          rw [Hll.out.2]
          have h1 := IntsIn.row (SliceIn.later (SliceIn.of_owns Ho13.out) hb14)
          have h2 := IntsIn.row (SliceIn.of_owns ho14)
          rw [Hll.out.2] at h1 h2
          exact ⟨h1, h2⟩
        have hL62 : L ≤ 9223372036854775807 := by have : maxLen ≤ 9223372036854775807 := by decide
                                                  omega
        clear hb14 ho14 Ho13
        refine hK.out _ _ Hb14.out (fun _ => ?_)
        clear hK K
        refine wpAnyH_take (i := 6) (by simp only [List.getElem?_toArray, List.getElem?_cons_succ, List.getElem?_cons_zero]; rfl) (by kernel_rfl) (by kernel_rfl) (by kernel_rfl) (by intro _ _ _ h; exact h) (Or.inl ⟨by rfl, fun w hw => by (skip; go_simp; try rfl)⟩) Hb14.out ?_
        refine wpAnyH_take (i := 7) (by simp only [List.getElem?_toArray, List.getElem?_cons_succ, List.getElem?_cons_zero]; rfl) (by kernel_rfl) (by kernel_rfl) (by kernel_rfl) (by intro _ _ _ h; exact h) (Or.inl ⟨by rfl, fun w hw => by (skip; go_simp; try rfl)⟩) Hb14.out ?_
        go_frame
        refine wpAnyH_done (by kernel_rfl) ?_ _
        go_wp2_with fail
        go_loopg [90] L (fun gk iv wx => ∃ i : Nat, gk = L - i ∧ iv = .int .i64 (i : Int) ∧ i ≤ L ∧ Below w14.heap.size w14 wx)
        case atStart => exact ⟨0, rfl, rfl, Nat.zero_le _, Below.refl _ _⟩
        case round =>
          obtain ⟨i, hgk, rfl, hi, hbw⟩ := hrel
          have Hg := Lib.hid hgk
          have Hbw := Lib.hid hbw
          clear hgk hbw
          by_cases hiL : i < L
          · obtain ⟨y, hy⟩ : ∃ y, l[i]? = some y := ⟨_, List.getElem?_eq_getElem (by rw [← Hll.out.2]; exact hiL)⟩
            obtain ⟨b1, o1, rfl, hb1, hp1⟩ := Hr.out.1.at (i := i) hiL
            obtain ⟨b2, o2, rfl, hb2, hp2⟩ := Hr.out.2.at (i := i) hiL
            have e1 := (Hbw.out.cell (p := ⟨b1, _, none⟩) hb1).trans (hp1 y hy)
            have e2 := (Hbw.out.cell (p := ⟨b2, _, none⟩) hb2).trans (hp2 y hy)
            rw [Nat.mul_one] at e1 e2
            have hbb : b1 < wr.heap.size ∧ b2 < wr.heap.size := by have := Hbw.out.size; omega
            clear hp1 hp2 hy
            go_upto_region 18 with (fail)
            refine wp_region_held (S := Below wr.heap.size wr.drew) rfl ?_
            change wpAnyH _ _ _ _ (Below wr.heap.size wr.drew) _ _ _ wr.drew
            obtain ⟨W15, hW15⟩ : ∃ W0, W0 = wr.drew := ⟨_, rfl⟩
            rw [← hW15]
            have hb15 : Below wr.heap.size wr W15 := by rw [hW15]; exact (Below.refl _ _).drew
            have Hf2 : Hid (∀ W, Below wr.heap.size W15 W → W.cell? ⟨b1, o1 + i, none⟩ = some (.int .i64 y) ∧ W.cell? ⟨b2, o2 + i, none⟩ = some (.int .i64 y)) := fun W hb =>
              ⟨((hb15.trans hb).cell (p := ⟨b1, _, none⟩) hbb.1).trans e1, ((hb15.trans hb).cell (p := ⟨b2, _, none⟩) hbb.2).trans e2⟩
            have Hb15 : Hid (Below wr.heap.size W15 W15) := Below.refl _ _
            have H15 := Lib.hid hb15
            clear hb15 hW15 e1 e2
            refine wpAnyH_take (i := 0) (by simp only [List.getElem?_toArray, List.getElem?_cons_zero]; rfl) (by kernel_rfl) (by kernel_rfl) (by kernel_rfl) (by intro _ _ _ h; exact h) (Or.inl ⟨by rfl, fun w hw => by (obtain ⟨e1, e2⟩ := Hf2.out w hw; go_simp; try rfl)⟩) Hb15.out ?_
            refine wpAnyH_take (i := 1) (by simp only [List.getElem?_toArray, List.getElem?_cons_succ, List.getElem?_cons_zero]; rfl) (by kernel_rfl) (by kernel_rfl) (by kernel_rfl) (by intro _ _ _ h; exact h) (Or.inl ⟨by rfl, fun w hw => by (obtain ⟨e1, e2⟩ := Hf2.out w hw; go_simp; try rfl)⟩) Hb15.out ?_
            go_frame
            refine wpAnyH_take (i := 2) (by simp only [List.getElem?_toArray, List.getElem?_cons_succ, List.getElem?_cons_zero]; rfl) (by kernel_rfl) (by kernel_rfl) (by kernel_rfl) (by intro _ _ _ h; exact h) (Or.inl ⟨by rfl, fun w hw => by (obtain ⟨e1, e2⟩ := Hf2.out w hw; go_simp; try rfl)⟩) Hb15.out ?_
            refine wpAnyH_take (i := 3) (by simp only [List.getElem?_toArray, List.getElem?_cons_succ, List.getElem?_cons_zero]; rfl) (by kernel_rfl) (by kernel_rfl) (by kernel_rfl) (by intro _ _ _ h; exact h) (Or.inl ⟨by rfl, fun w hw => by (obtain ⟨e1, e2⟩ := Hf2.out w hw; go_simp; try rfl)⟩) Hb15.out ?_
            go_frame
            refine wpAnyH_take (i := 4) (by simp only [List.getElem?_toArray, List.getElem?_cons_succ, List.getElem?_cons_zero]; rfl) (by kernel_rfl) (by kernel_rfl) (by kernel_rfl) (by intro _ _ _ h; exact h) (Or.inl ⟨by rfl, fun w hw => by (obtain ⟨e1, e2⟩ := Hf2.out w hw; go_simp; try rfl)⟩) Hb15.out ?_
            refine wpAnyH_take (i := 5) (by simp only [List.getElem?_toArray, List.getElem?_cons_succ, List.getElem?_cons_zero]; rfl) (by kernel_rfl) (by kernel_rfl) (by kernel_rfl) (by intro _ _ _ h; exact h) (Or.inl ⟨by rfl, fun w hw => by (obtain ⟨e1, e2⟩ := Hf2.out w hw; go_simp; try rfl)⟩) Hb15.out ?_
            go_frame
            refine wpAnyH_take (i := 6) (by simp only [List.getElem?_toArray, List.getElem?_cons_succ, List.getElem?_cons_zero]; rfl) (by kernel_rfl) (by kernel_rfl) (by kernel_rfl) (by intro _ _ _ h; exact h) (Or.inl ⟨by rfl, fun w hw => by (obtain ⟨e1, e2⟩ := Hf2.out w hw; go_simp; try rfl)⟩) Hb15.out ?_
            refine wpAnyH_take (i := 7) (by simp only [List.getElem?_toArray, List.getElem?_cons_succ, List.getElem?_cons_zero]; rfl) (by kernel_rfl) (by kernel_rfl) (by kernel_rfl) (by intro _ _ _ h; exact h) (Or.inl ⟨by rfl, fun w hw => by (obtain ⟨e1, e2⟩ := Hf2.out w hw; go_simp; try rfl)⟩) Hb15.out ?_
            go_frame
            refine wpAnyH_take (i := 8) (by simp only [List.getElem?_toArray, List.getElem?_cons_succ, List.getElem?_cons_zero]; rfl) (by kernel_rfl) (by kernel_rfl) (by kernel_rfl) (by intro _ _ _ h; exact h) (Or.inl ⟨by rfl, fun w hw => by (obtain ⟨e1, e2⟩ := Hf2.out w hw; go_simp; try rfl)⟩) Hb15.out ?_
            go_frame
            refine wpAnyH_done (by kernel_rfl) ?_ _
            go_wp2_with fail
            go_roundg (L - (i + 1))
            case measure => have := Hg.out; omega
            case rel => exact ⟨i + 1, rfl, by go_num, hiL, Hbw.out.trans (H15.out.mono Hbw.out.size)⟩
          · obtain rfl : L = i := by omega
            go_wp2_with fail
            have Hbr : Hid (Below B0 W12 wr) := Hb14.out.trans (Hbw.out.mono (Nat.le_trans hB12 Hb14.out.size))
            refine wp_region_held (S := Below B0 wr.drew) rfl ?_
            change wpAnyH _ _ _ _ (Below B0 wr.drew) _ _ _ wr.drew
            obtain ⟨W15, hW15⟩ : ∃ W0, W0 = wr.drew := ⟨_, rfl⟩
            rw [← hW15]
            have hb15 : Below B0 W12 W15 := by rw [hW15]; exact Hbr.out.drew
            have hB15 : B0 ≤ W15.heap.size := Nat.le_trans hB12 hb15.size
            have H15 := Lib.hid hb15
            have Hb15 : Hid (Below B0 W15 W15) := Below.refl _ _
            clear hW15 hb15
            refine wpAnyH_take (i := 0) (by simp only [List.getElem?_toArray, List.getElem?_cons_zero]; rfl) (by kernel_rfl) (by kernel_rfl) (by kernel_rfl) (by intro _ _ _ h; exact h) (Or.inl ⟨by rfl, fun w hw => by (obtain ⟨⟨⟨c0, c1⟩, d0, d1⟩, f0, f1, f2⟩ := Hfc.out w (H15.out.trans hw); go_simp; try rfl)⟩) Hb15.out ?_
            go_frame
            refine wpAnyH_take (i := 2) (by simp only [List.getElem?_toArray, List.getElem?_cons_succ, List.getElem?_cons_zero]; rfl) (by kernel_rfl) (by kernel_rfl) (by kernel_rfl) (by intro _ _ _ h; exact h) (Or.inl ⟨by rfl, fun w hw => by (obtain ⟨⟨⟨c0, c1⟩, d0, d1⟩, f0, f1, f2⟩ := Hfc.out w (H15.out.trans hw); go_simp; try rfl)⟩) Hb15.out ?_
            go_frame
            refine wpAnyH_ready (rs := [1]) (by kernel_rfl) (by simp) ?_
            refine AllReadyH.cons rfl (fun K hK => ?_) AllReadyH.nil
            go_simp
            refine (ncheck_any _ _ _ _ _ W15 (HQf.out W15 H15.out).1).mono ?_
            rintro e w16 ⟨rfl, hb16⟩
            rw [Hnf.out]
            unfold fltV
            have Hb16 : Hid (Below B0 W15 w16) := hb16.mono hB15
            clear hb16
            refine hK.out _ _ Hb16.out (fun _ => ?_)
            clear hK K
            refine wpAnyH_take (i := 3) (by simp only [List.getElem?_toArray, List.getElem?_cons_succ, List.getElem?_cons_zero]; rfl) (by kernel_rfl) (by kernel_rfl) (by kernel_rfl) (by intro _ _ _ h; exact h) (Or.inl ⟨by rfl, fun w hw => by (skip; go_simp; try rfl)⟩) Hb16.out ?_
            go_frame
            refine wpAnyH_take (i := 4) (by simp only [List.getElem?_toArray, List.getElem?_cons_succ, List.getElem?_cons_zero]; rfl) (by kernel_rfl) (by kernel_rfl) (by kernel_rfl) (by intro _ _ _ h; exact h) (Or.inl ⟨by rfl, fun w hw => by (skip; go_simp; try rfl)⟩) Hb16.out ?_
            go_frame
            refine wpAnyH_done (by kernel_rfl) ?_ _
            go_wp2_with fail
            go_ret
            exact ⟨by rfl, (HQf.out w16 (H15.out.trans Hb16.out)).2.2⟩
      · have b1 : (ea != 0) = true := by simpa using e1
        have b2 : (eb == (j : Int)) = true := by simpa using e2
        have b3 : decide (0 < ec) = false := by simpa using e3
        have He := Lib.hid e4
        clear e1 e2 e3 e4
        go_upto_region 12 with (fail)
        obtain ⟨W11, hW11⟩ : ∃ w : World, w = w10 := ⟨_, rfl⟩
        rw [← hW11]
        have q11 : W9.heap.size ≤ W11.heap.size := by rw [hW11]; exact q10
        have H11 : Hid (Below W.heap.size W W11 ∧ PgIn W11 (p.withBody j [ifS f.body]) (.slice (some ⟨gw, 0, none⟩) m ocw) (.slice (some ⟨g, 0, none⟩) n ocap) vp' (setAt vb' j (.slice (some ⟨E, 0, none⟩) 1 1)) ∧ ((W11.cell? ⟨B, 0, none⟩ = some (.slice aw m cw) ∧ W11.cell? ⟨B, 1, none⟩ = some (.slice a n cap)) ∧ W11.cell? ⟨C, 0, none⟩ = some (.slice (some ⟨gw, 0, none⟩) m ocw) ∧ W11.cell? ⟨C, 1, none⟩ = some (.slice (some ⟨g, 0, none⟩) n ocap)) ∧ W11.cell? ⟨D, 0, none⟩ = some (.int .i64 ea) ∧ W11.cell? ⟨D, 1, none⟩ = some (.int .i64 eb) ∧ W11.cell? ⟨D, 2, none⟩ = some (.int .i64 ec2)) := by
          rw [hW11, He.out]
          exact ⟨H10.out, HQ.out w10 q10 fun k _ h => Hb10.out.block k h, ⟨⟨c0, c1⟩, d0, d1⟩, f0, f1, f2⟩
        clear hW11 c0 c1 d0 d1 f0 f1 f2 fz b1 b2 b3 He
        obtain ⟨⟨⟨c0, c1⟩, d0, d1⟩, f0, f1, f2⟩ := H11.out.2.2
        obtain ⟨l, hl⟩ : ∃ l, l = p.ncalls (j : Int) := ⟨_, rfl⟩
        obtain ⟨L, hL⟩ : ∃ L, L = l.length := ⟨_, rfl⟩
        have Hll := Lib.hid (And.intro hl hL)
        clear hl hL
        obtain ⟨B0, hBe⟩ : ∃ B0, B0 = W11.heap.size := ⟨_, rfl⟩
        have hBD : B < B0 ∧ D < B0 ∧ C < B0 := by omega
        refine wp_region_held (S := Below B0 W11.drew) rfl ?_
        change wpAnyH _ _ _ _ (Below B0 W11.drew) _ _ _ W11.drew
        obtain ⟨W12, hW12⟩ : ∃ W0, W0 = W11.drew := ⟨_, rfl⟩
        rw [← hW12]
        have hb12 : Below W11.heap.size W11 W12 := by rw [hW12]; exact (Below.refl _ _).drew
        have hB12 : B0 ≤ W12.heap.size := by rw [hBe]; exact hb12.size
        have hb12' : Below B0 W11 W12 := by rw [hBe]; exact hb12
        have Hfc : Hid (∀ W, Below B0 W12 W → (((W.cell? ⟨B, 0, none⟩ = some (.slice aw m cw) ∧ W.cell? ⟨B, 1, none⟩ = some (.slice a n cap)) ∧ W.cell? ⟨C, 0, none⟩ = some (.slice (some ⟨gw, 0, none⟩) m ocw) ∧ W.cell? ⟨C, 1, none⟩ = some (.slice (some ⟨g, 0, none⟩) n ocap)) ∧ W.cell? ⟨D, 0, none⟩ = some (.int .i64 ea) ∧ W.cell? ⟨D, 1, none⟩ = some (.int .i64 eb) ∧ W.cell? ⟨D, 2, none⟩ = some (.int .i64 ec2))) := fun W hb => by
          have k := fun q j (h : q < B0) => (hb12'.trans hb).cell (p := ⟨q, j, none⟩) h
          exact ⟨⟨⟨(k _ _ hBD.1).trans c0, (k _ _ hBD.1).trans c1⟩, (k _ _ hBD.2.2).trans d0, (k _ _ hBD.2.2).trans d1⟩, (k _ _ hBD.2.1).trans f0, (k _ _ hBD.2.1).trans f1, (k _ _ hBD.2.1).trans f2⟩
        have HQf : Hid (∀ W', Below B0 W12 W' → PgIn W' (p.withBody j [ifS f.body]) (.slice (some ⟨gw, 0, none⟩) m ocw) (.slice (some ⟨g, 0, none⟩) n ocap) vp' (setAt vb' j (.slice (some ⟨E, 0, none⟩) 1 1)) ∧ PgIn W' p (.slice aw m cw) (.slice a n cap) vp vb ∧ Below W.heap.size W W') := fun W' hb => by
          have h := hb12'.trans hb
          rw [hBe] at h
          exact ⟨H11.out.2.1.later h, HP.out.later (H11.out.1.trans (h.mono H11.out.1.size)), H11.out.1.trans (h.mono H11.out.1.size)⟩
        have Hb12 : Hid (Below B0 W12 W12) := Below.refl _ _
        clear hb12 hb12' hW12 hBe c0 c1 d0 d1 f0 f1 f2
        refine wpAnyH_take (i := 0) (by simp only [List.getElem?_toArray, List.getElem?_cons_zero]; rfl) (by kernel_rfl) (by kernel_rfl) (by kernel_rfl) (by intro _ _ _ h; exact h) (Or.inl ⟨by rfl, fun w hw => by (obtain ⟨⟨⟨c0, c1⟩, d0, d1⟩, f0, f1, f2⟩ := Hfc.out w hw; go_simp; try rfl)⟩) Hb12.out ?_
        refine wpAnyH_take (i := 1) (by simp only [List.getElem?_toArray, List.getElem?_cons_succ, List.getElem?_cons_zero]; rfl) (by kernel_rfl) (by kernel_rfl) (by kernel_rfl) (by intro _ _ _ h; exact h) (Or.inl ⟨by rfl, fun w hw => by (obtain ⟨⟨⟨c0, c1⟩, d0, d1⟩, f0, f1, f2⟩ := Hfc.out w hw; go_simp; try rfl)⟩) Hb12.out ?_
        go_frame
        refine wpAnyH_take (i := 3) (by simp only [List.getElem?_toArray, List.getElem?_cons_succ, List.getElem?_cons_zero]; rfl) (by kernel_rfl) (by kernel_rfl) (by kernel_rfl) (by intro _ _ _ h; exact h) (Or.inl ⟨by rfl, fun w hw => by (obtain ⟨⟨⟨c0, c1⟩, d0, d1⟩, f0, f1, f2⟩ := Hfc.out w hw; go_simp; try rfl)⟩) Hb12.out ?_
        go_frame
        refine wpAnyH_take (i := 4) (by simp only [List.getElem?_toArray, List.getElem?_cons_succ, List.getElem?_cons_zero]; rfl) (by kernel_rfl) (by kernel_rfl) (by kernel_rfl) (by intro _ _ _ h; exact h) (Or.inl ⟨by rfl, fun w hw => by (obtain ⟨⟨⟨c0, c1⟩, d0, d1⟩, f0, f1, f2⟩ := Hfc.out w hw; go_simp; try rfl)⟩) Hb12.out ?_
        go_frame
        refine wpAnyH_ready (rs := [2]) (by kernel_rfl) (by simp) ?_
        refine AllReadyH.cons rfl (fun K hK => ?_) AllReadyH.nil
        go_simp
        refine (ncalls_any p (.slice aw m cw) (.slice a n cap) vp vb (j : Int) W12 (HQf.out W12 Hb12.out).2.1).mono ?_
        rintro e w13 ⟨v13, rfl, ho13, hb13⟩
        rw [← Hll.out.1] at ho13
        obtain ⟨a13, c13, hv13, hc13⟩ := (IntsIn.row (SliceIn.of_owns ho13)).form
        subst hv13
        rw [← Hll.out.2] at ho13 hc13 ⊢
        have Hb13 : Hid (Below B0 W12 w13) := hb13.mono hB12
        have Ho13 := Lib.hid ho13
        clear hb13 ho13
        refine hK.out _ _ Hb13.out (fun _ => ?_)
        clear hK K
        refine wpAnyH_ready (rs := [5]) (by kernel_rfl) (by simp) ?_
        refine AllReadyH.cons rfl (fun K hK => ?_) AllReadyH.nil
        go_simp
        refine (ncalls_any _ _ _ _ _ (j : Int) w13 (HQf.out w13 Hb13.out).1).mono ?_
        rintro e w14 ⟨v14, rfl, ho14, hb14⟩
        rw [Hnc.out, ← Hll.out.1] at ho14
        obtain ⟨a14, c14, hv14, hc14⟩ := (IntsIn.row (SliceIn.of_owns ho14)).form
        subst hv14
        rw [← Hll.out.2] at ho14 hc14 ⊢
        have Hb14 : Hid (Below B0 W12 w14) := Hb13.out.trans (hb14.mono (Nat.le_trans hB12 Hb13.out.size))
        have Hr : Hid (RowOf w14 (.slice a13 L c13) L 1 (fun b o i => ∀ x, l[i]? = some x → w14.cell? ⟨b, o, none⟩ = some (.int .i64 x)) ∧ RowOf w14 (.slice a14 L c14) L 1 (fun b o i => ∀ x, l[i]? = some x → w14.cell? ⟨b, o, none⟩ = some (.int .i64 x))) := by
          rw [Hll.out.2]
          have h1 := IntsIn.row (SliceIn.later (SliceIn.of_owns Ho13.out) hb14)
          have h2 := IntsIn.row (SliceIn.of_owns ho14)
          rw [Hll.out.2] at h1 h2
          exact ⟨h1, h2⟩
        have hL62 : L ≤ 9223372036854775807 := by have : maxLen ≤ 9223372036854775807 := by decide
                                                  omega
        clear hb14 ho14 Ho13
        refine hK.out _ _ Hb14.out (fun _ => ?_)
        clear hK K
        refine wpAnyH_take (i := 6) (by simp only [List.getElem?_toArray, List.getElem?_cons_succ, List.getElem?_cons_zero]; rfl) (by kernel_rfl) (by kernel_rfl) (by kernel_rfl) (by intro _ _ _ h; exact h) (Or.inl ⟨by rfl, fun w hw => by (skip; go_simp; try rfl)⟩) Hb14.out ?_
        refine wpAnyH_take (i := 7) (by simp only [List.getElem?_toArray, List.getElem?_cons_succ, List.getElem?_cons_zero]; rfl) (by kernel_rfl) (by kernel_rfl) (by kernel_rfl) (by intro _ _ _ h; exact h) (Or.inl ⟨by rfl, fun w hw => by (skip; go_simp; try rfl)⟩) Hb14.out ?_
        go_frame
        refine wpAnyH_done (by kernel_rfl) ?_ _
        go_wp2_with fail
        go_loopg [90] L (fun gk iv wx => ∃ i : Nat, gk = L - i ∧ iv = .int .i64 (i : Int) ∧ i ≤ L ∧ Below w14.heap.size w14 wx)
        case atStart => exact ⟨0, rfl, rfl, Nat.zero_le _, Below.refl _ _⟩
        case round =>
          obtain ⟨i, hgk, rfl, hi, hbw⟩ := hrel
          have Hg := Lib.hid hgk
          have Hbw := Lib.hid hbw
          clear hgk hbw
          by_cases hiL : i < L
          · obtain ⟨y, hy⟩ : ∃ y, l[i]? = some y := ⟨_, List.getElem?_eq_getElem (by rw [← Hll.out.2]; exact hiL)⟩
            obtain ⟨b1, o1, rfl, hb1, hp1⟩ := Hr.out.1.at (i := i) hiL
            obtain ⟨b2, o2, rfl, hb2, hp2⟩ := Hr.out.2.at (i := i) hiL
            have e1 := (Hbw.out.cell (p := ⟨b1, _, none⟩) hb1).trans (hp1 y hy)
            have e2 := (Hbw.out.cell (p := ⟨b2, _, none⟩) hb2).trans (hp2 y hy)
            rw [Nat.mul_one] at e1 e2
            have hbb : b1 < wr.heap.size ∧ b2 < wr.heap.size := by have := Hbw.out.size; omega
            clear hp1 hp2 hy
            go_upto_region 18 with (fail)
            refine wp_region_held (S := Below wr.heap.size wr.drew) rfl ?_
            change wpAnyH _ _ _ _ (Below wr.heap.size wr.drew) _ _ _ wr.drew
            obtain ⟨W15, hW15⟩ : ∃ W0, W0 = wr.drew := ⟨_, rfl⟩
            rw [← hW15]
            have hb15 : Below wr.heap.size wr W15 := by rw [hW15]; exact (Below.refl _ _).drew
            have Hf2 : Hid (∀ W, Below wr.heap.size W15 W → W.cell? ⟨b1, o1 + i, none⟩ = some (.int .i64 y) ∧ W.cell? ⟨b2, o2 + i, none⟩ = some (.int .i64 y)) := fun W hb =>
              ⟨((hb15.trans hb).cell (p := ⟨b1, _, none⟩) hbb.1).trans e1, ((hb15.trans hb).cell (p := ⟨b2, _, none⟩) hbb.2).trans e2⟩
            have Hb15 : Hid (Below wr.heap.size W15 W15) := Below.refl _ _
            have H15 := Lib.hid hb15
            clear hb15 hW15 e1 e2
            refine wpAnyH_take (i := 0) (by simp only [List.getElem?_toArray, List.getElem?_cons_zero]; rfl) (by kernel_rfl) (by kernel_rfl) (by kernel_rfl) (by intro _ _ _ h; exact h) (Or.inl ⟨by rfl, fun w hw => by (obtain ⟨e1, e2⟩ := Hf2.out w hw; go_simp; try rfl)⟩) Hb15.out ?_
            refine wpAnyH_take (i := 1) (by simp only [List.getElem?_toArray, List.getElem?_cons_succ, List.getElem?_cons_zero]; rfl) (by kernel_rfl) (by kernel_rfl) (by kernel_rfl) (by intro _ _ _ h; exact h) (Or.inl ⟨by rfl, fun w hw => by (obtain ⟨e1, e2⟩ := Hf2.out w hw; go_simp; try rfl)⟩) Hb15.out ?_
            go_frame
            refine wpAnyH_take (i := 2) (by simp only [List.getElem?_toArray, List.getElem?_cons_succ, List.getElem?_cons_zero]; rfl) (by kernel_rfl) (by kernel_rfl) (by kernel_rfl) (by intro _ _ _ h; exact h) (Or.inl ⟨by rfl, fun w hw => by (obtain ⟨e1, e2⟩ := Hf2.out w hw; go_simp; try rfl)⟩) Hb15.out ?_
            refine wpAnyH_take (i := 3) (by simp only [List.getElem?_toArray, List.getElem?_cons_succ, List.getElem?_cons_zero]; rfl) (by kernel_rfl) (by kernel_rfl) (by kernel_rfl) (by intro _ _ _ h; exact h) (Or.inl ⟨by rfl, fun w hw => by (obtain ⟨e1, e2⟩ := Hf2.out w hw; go_simp; try rfl)⟩) Hb15.out ?_
            go_frame
            refine wpAnyH_take (i := 4) (by simp only [List.getElem?_toArray, List.getElem?_cons_succ, List.getElem?_cons_zero]; rfl) (by kernel_rfl) (by kernel_rfl) (by kernel_rfl) (by intro _ _ _ h; exact h) (Or.inl ⟨by rfl, fun w hw => by (obtain ⟨e1, e2⟩ := Hf2.out w hw; go_simp; try rfl)⟩) Hb15.out ?_
            refine wpAnyH_take (i := 5) (by simp only [List.getElem?_toArray, List.getElem?_cons_succ, List.getElem?_cons_zero]; rfl) (by kernel_rfl) (by kernel_rfl) (by kernel_rfl) (by intro _ _ _ h; exact h) (Or.inl ⟨by rfl, fun w hw => by (obtain ⟨e1, e2⟩ := Hf2.out w hw; go_simp; try rfl)⟩) Hb15.out ?_
            go_frame
            refine wpAnyH_take (i := 6) (by simp only [List.getElem?_toArray, List.getElem?_cons_succ, List.getElem?_cons_zero]; rfl) (by kernel_rfl) (by kernel_rfl) (by kernel_rfl) (by intro _ _ _ h; exact h) (Or.inl ⟨by rfl, fun w hw => by (obtain ⟨e1, e2⟩ := Hf2.out w hw; go_simp; try rfl)⟩) Hb15.out ?_
            refine wpAnyH_take (i := 7) (by simp only [List.getElem?_toArray, List.getElem?_cons_succ, List.getElem?_cons_zero]; rfl) (by kernel_rfl) (by kernel_rfl) (by kernel_rfl) (by intro _ _ _ h; exact h) (Or.inl ⟨by rfl, fun w hw => by (obtain ⟨e1, e2⟩ := Hf2.out w hw; go_simp; try rfl)⟩) Hb15.out ?_
            go_frame
            refine wpAnyH_take (i := 8) (by simp only [List.getElem?_toArray, List.getElem?_cons_succ, List.getElem?_cons_zero]; rfl) (by kernel_rfl) (by kernel_rfl) (by kernel_rfl) (by intro _ _ _ h; exact h) (Or.inl ⟨by rfl, fun w hw => by (obtain ⟨e1, e2⟩ := Hf2.out w hw; go_simp; try rfl)⟩) Hb15.out ?_
            go_frame
            refine wpAnyH_done (by kernel_rfl) ?_ _
            go_wp2_with fail
            go_roundg (L - (i + 1))
            case measure => have := Hg.out; omega
            case rel => exact ⟨i + 1, rfl, by go_num, hiL, Hbw.out.trans (H15.out.mono Hbw.out.size)⟩
          · obtain rfl : L = i := by omega
            go_wp2_with fail
            have Hbr : Hid (Below B0 W12 wr) := Hb14.out.trans (Hbw.out.mono (Nat.le_trans hB12 Hb14.out.size))
            refine wp_region_held (S := Below B0 wr.drew) rfl ?_
            change wpAnyH _ _ _ _ (Below B0 wr.drew) _ _ _ wr.drew
            obtain ⟨W15, hW15⟩ : ∃ W0, W0 = wr.drew := ⟨_, rfl⟩
            rw [← hW15]
            have hb15 : Below B0 W12 W15 := by rw [hW15]; exact Hbr.out.drew
            have hB15 : B0 ≤ W15.heap.size := Nat.le_trans hB12 hb15.size
            have H15 := Lib.hid hb15
            have Hb15 : Hid (Below B0 W15 W15) := Below.refl _ _
            clear hW15 hb15
            refine wpAnyH_take (i := 0) (by simp only [List.getElem?_toArray, List.getElem?_cons_zero]; rfl) (by kernel_rfl) (by kernel_rfl) (by kernel_rfl) (by intro _ _ _ h; exact h) (Or.inl ⟨by rfl, fun w hw => by (obtain ⟨⟨⟨c0, c1⟩, d0, d1⟩, f0, f1, f2⟩ := Hfc.out w (H15.out.trans hw); go_simp; try rfl)⟩) Hb15.out ?_
            go_frame
            refine wpAnyH_take (i := 2) (by simp only [List.getElem?_toArray, List.getElem?_cons_succ, List.getElem?_cons_zero]; rfl) (by kernel_rfl) (by kernel_rfl) (by kernel_rfl) (by intro _ _ _ h; exact h) (Or.inl ⟨by rfl, fun w hw => by (obtain ⟨⟨⟨c0, c1⟩, d0, d1⟩, f0, f1, f2⟩ := Hfc.out w (H15.out.trans hw); go_simp; try rfl)⟩) Hb15.out ?_
            go_frame
            refine wpAnyH_ready (rs := [1]) (by kernel_rfl) (by simp) ?_
            refine AllReadyH.cons rfl (fun K hK => ?_) AllReadyH.nil
            go_simp
            refine (ncheck_any _ _ _ _ _ W15 (HQf.out W15 H15.out).1).mono ?_
            rintro e w16 ⟨rfl, hb16⟩
            rw [Hnf.out]
            unfold fltV
            have Hb16 : Hid (Below B0 W15 w16) := hb16.mono hB15
            clear hb16
            refine hK.out _ _ Hb16.out (fun _ => ?_)
            clear hK K
            refine wpAnyH_take (i := 3) (by simp only [List.getElem?_toArray, List.getElem?_cons_succ, List.getElem?_cons_zero]; rfl) (by kernel_rfl) (by kernel_rfl) (by kernel_rfl) (by intro _ _ _ h; exact h) (Or.inl ⟨by rfl, fun w hw => by (skip; go_simp; try rfl)⟩) Hb16.out ?_
            go_frame
            refine wpAnyH_take (i := 4) (by simp only [List.getElem?_toArray, List.getElem?_cons_succ, List.getElem?_cons_zero]; rfl) (by kernel_rfl) (by kernel_rfl) (by kernel_rfl) (by intro _ _ _ h; exact h) (Or.inl ⟨by rfl, fun w hw => by (skip; go_simp; try rfl)⟩) Hb16.out ?_
            go_frame
            refine wpAnyH_done (by kernel_rfl) ?_ _
            go_wp2_with fail
            go_ret
            exact ⟨by rfl, (HQf.out w16 (H15.out.trans Hb16.out)).2.2⟩
      · have b1 : (ea != 0) = true := by simpa using e1
        have b2 : (eb == (j : Int)) = true := by simpa using e2
        have b3 : decide (0 < ec) = true := by simpa using e3
        have He := Lib.hid e4
        clear e1 e2 e3 e4
        go_upto_region 12 with (fail)
        obtain ⟨W11, hW11⟩ : ∃ w : World, w = w10.setCell ⟨D, 2, none⟩ (.int .i64 (ec + 1)) := ⟨_, rfl⟩
        rw [← hW11]
        have hO11 : Oth (· = D) w10 W11 := by rw [hW11]; exact (Oth.refl (· = D) w10).set (p := ⟨D, 2, none⟩) rfl _
        have q11 : W9.heap.size ≤ W11.heap.size := Nat.le_trans q10 hO11.size
        have H11 : Hid (Below W.heap.size W W11 ∧ PgIn W11 (p.withBody j [ifS f.body]) (.slice (some ⟨gw, 0, none⟩) m ocw) (.slice (some ⟨g, 0, none⟩) n ocap) vp' (setAt vb' j (.slice (some ⟨E, 0, none⟩) 1 1)) ∧ ((W11.cell? ⟨B, 0, none⟩ = some (.slice aw m cw) ∧ W11.cell? ⟨B, 1, none⟩ = some (.slice a n cap)) ∧ W11.cell? ⟨C, 0, none⟩ = some (.slice (some ⟨gw, 0, none⟩) m ocw) ∧ W11.cell? ⟨C, 1, none⟩ = some (.slice (some ⟨g, 0, none⟩) n ocap)) ∧ W11.cell? ⟨D, 0, none⟩ = some (.int .i64 ea) ∧ W11.cell? ⟨D, 1, none⟩ = some (.int .i64 eb) ∧ W11.cell? ⟨D, 2, none⟩ = some (.int .i64 ec2)) := by
          have kB := fun i => hO11.cell (p := ⟨B, i, none⟩) (by show B < _; omega) (by show ¬ B = D; omega)
          have kC := fun i => hO11.cell (p := ⟨C, i, none⟩) (by show C < _; omega) (by show ¬ C = D; omega)
          refine ⟨H10.out.trans (hO11.below H10.out.size fun k e => by omega), HQ.out W11 q11 fun k h1 h2 => (hO11.block k (by omega) (by show ¬ k = D; omega)).trans (Hb10.out.block k h2), ⟨⟨(kB _).trans c0, (kB _).trans c1⟩, (kC _).trans d0, (kC _).trans d1⟩, ?_, ?_, ?_⟩
          · rw [hW11, World.cell?_setCell_other _ _ _ _ (by simp)]; exact f0
          · rw [hW11, World.cell?_setCell_other _ _ _ _ (by simp)]; exact f1
          · rw [hW11, He.out]; exact World.cell?_setCell_same' _ _ _ (by rw [f2]; rfl)
        clear hW11 hO11 c0 c1 d0 d1 f0 f1 f2 fz b1 b2 b3 He
        obtain ⟨⟨⟨c0, c1⟩, d0, d1⟩, f0, f1, f2⟩ := H11.out.2.2
        obtain ⟨l, hl⟩ : ∃ l, l = p.ncalls (j : Int) := ⟨_, rfl⟩
        obtain ⟨L, hL⟩ : ∃ L, L = l.length := ⟨_, rfl⟩
        have Hll := Lib.hid (And.intro hl hL)
        clear hl hL
        obtain ⟨B0, hBe⟩ : ∃ B0, B0 = W11.heap.size := ⟨_, rfl⟩
        have hBD : B < B0 ∧ D < B0 ∧ C < B0 := by omega
        refine wp_region_held (S := Below B0 W11.drew) rfl ?_
        change wpAnyH _ _ _ _ (Below B0 W11.drew) _ _ _ W11.drew
        obtain ⟨W12, hW12⟩ : ∃ W0, W0 = W11.drew := ⟨_, rfl⟩
        rw [← hW12]
        have hb12 : Below W11.heap.size W11 W12 := by rw [hW12]; exact (Below.refl _ _).drew
        have hB12 : B0 ≤ W12.heap.size := by rw [hBe]; exact hb12.size
        have hb12' : Below B0 W11 W12 := by rw [hBe]; exact hb12
        have Hfc : Hid (∀ W, Below B0 W12 W → (((W.cell? ⟨B, 0, none⟩ = some (.slice aw m cw) ∧ W.cell? ⟨B, 1, none⟩ = some (.slice a n cap)) ∧ W.cell? ⟨C, 0, none⟩ = some (.slice (some ⟨gw, 0, none⟩) m ocw) ∧ W.cell? ⟨C, 1, none⟩ = some (.slice (some ⟨g, 0, none⟩) n ocap)) ∧ W.cell? ⟨D, 0, none⟩ = some (.int .i64 ea) ∧ W.cell? ⟨D, 1, none⟩ = some (.int .i64 eb) ∧ W.cell? ⟨D, 2, none⟩ = some (.int .i64 ec2))) := fun W hb => by
          have k := fun q j (h : q < B0) => (hb12'.trans hb).cell (p := ⟨q, j, none⟩) h
          exact ⟨⟨⟨(k _ _ hBD.1).trans c0, (k _ _ hBD.1).trans c1⟩, (k _ _ hBD.2.2).trans d0, (k _ _ hBD.2.2).trans d1⟩, (k _ _ hBD.2.1).trans f0, (k _ _ hBD.2.1).trans f1, (k _ _ hBD.2.1).trans f2⟩
        have HQf : Hid (∀ W', Below B0 W12 W' → PgIn W' (p.withBody j [ifS f.body]) (.slice (some ⟨gw, 0, none⟩) m ocw) (.slice (some ⟨g, 0, none⟩) n ocap) vp' (setAt vb' j (.slice (some ⟨E, 0, none⟩) 1 1)) ∧ PgIn W' p (.slice aw m cw) (.slice a n cap) vp vb ∧ Below W.heap.size W W') := fun W' hb => by
          have h := hb12'.trans hb
          rw [hBe] at h
          exact ⟨H11.out.2.1.later h, HP.out.later (H11.out.1.trans (h.mono H11.out.1.size)), H11.out.1.trans (h.mono H11.out.1.size)⟩
        have Hb12 : Hid (Below B0 W12 W12) := Below.refl _ _
        clear hb12 hb12' hW12 hBe c0 c1 d0 d1 f0 f1 f2
        refine wpAnyH_take (i := 0) (by simp only [List.getElem?_toArray, List.getElem?_cons_zero]; rfl) (by kernel_rfl) (by kernel_rfl) (by kernel_rfl) (by intro _ _ _ h; exact h) (Or.inl ⟨by rfl, fun w hw => by (obtain ⟨⟨⟨c0, c1⟩, d0, d1⟩, f0, f1, f2⟩ := Hfc.out w hw; go_simp; try rfl)⟩) Hb12.out ?_
        refine wpAnyH_take (i := 1) (by simp only [List.getElem?_toArray, List.getElem?_cons_succ, List.getElem?_cons_zero]; rfl) (by kernel_rfl) (by kernel_rfl) (by kernel_rfl) (by intro _ _ _ h; exact h) (Or.inl ⟨by rfl, fun w hw => by (obtain ⟨⟨⟨c0, c1⟩, d0, d1⟩, f0, f1, f2⟩ := Hfc.out w hw; go_simp; try rfl)⟩) Hb12.out ?_
        go_frame
        refine wpAnyH_take (i := 3) (by simp only [List.getElem?_toArray, List.getElem?_cons_succ, List.getElem?_cons_zero]; rfl) (by kernel_rfl) (by kernel_rfl) (by kernel_rfl) (by intro _ _ _ h; exact h) (Or.inl ⟨by rfl, fun w hw => by (obtain ⟨⟨⟨c0, c1⟩, d0, d1⟩, f0, f1, f2⟩ := Hfc.out w hw; go_simp; try rfl)⟩) Hb12.out ?_
        go_frame
        refine wpAnyH_take (i := 4) (by simp only [List.getElem?_toArray, List.getElem?_cons_succ, List.getElem?_cons_zero]; rfl) (by kernel_rfl) (by kernel_rfl) (by kernel_rfl) (by intro _ _ _ h; exact h) (Or.inl ⟨by rfl, fun w hw => by (obtain ⟨⟨⟨c0, c1⟩, d0, d1⟩, f0, f1, f2⟩ := Hfc.out w hw; go_simp; try rfl)⟩) Hb12.out ?_
        go_frame
        refine wpAnyH_ready (rs := [2]) (by kernel_rfl) (by simp) ?_
        refine AllReadyH.cons rfl (fun K hK => ?_) AllReadyH.nil
        go_simp
        refine (ncalls_any p (.slice aw m cw) (.slice a n cap) vp vb (j : Int) W12 (HQf.out W12 Hb12.out).2.1).mono ?_
        rintro e w13 ⟨v13, rfl, ho13, hb13⟩
        rw [← Hll.out.1] at ho13
        obtain ⟨a13, c13, hv13, hc13⟩ := (IntsIn.row (SliceIn.of_owns ho13)).form
        subst hv13
        rw [← Hll.out.2] at ho13 hc13 ⊢
        have Hb13 : Hid (Below B0 W12 w13) := hb13.mono hB12
        have Ho13 := Lib.hid ho13
        clear hb13 ho13
        refine hK.out _ _ Hb13.out (fun _ => ?_)
        clear hK K
        refine wpAnyH_ready (rs := [5]) (by kernel_rfl) (by simp) ?_
        refine AllReadyH.cons rfl (fun K hK => ?_) AllReadyH.nil
        go_simp
        refine (ncalls_any _ _ _ _ _ (j : Int) w13 (HQf.out w13 Hb13.out).1).mono ?_
        rintro e w14 ⟨v14, rfl, ho14, hb14⟩
        rw [Hnc.out, ← Hll.out.1] at ho14
        obtain ⟨a14, c14, hv14, hc14⟩ := (IntsIn.row (SliceIn.of_owns ho14)).form
        subst hv14
        rw [← Hll.out.2] at ho14 hc14 ⊢
        have Hb14 : Hid (Below B0 W12 w14) := Hb13.out.trans (hb14.mono (Nat.le_trans hB12 Hb13.out.size))
        have Hr : Hid (RowOf w14 (.slice a13 L c13) L 1 (fun b o i => ∀ x, l[i]? = some x → w14.cell? ⟨b, o, none⟩ = some (.int .i64 x)) ∧ RowOf w14 (.slice a14 L c14) L 1 (fun b o i => ∀ x, l[i]? = some x → w14.cell? ⟨b, o, none⟩ = some (.int .i64 x))) := by
          rw [Hll.out.2]
          have h1 := IntsIn.row (SliceIn.later (SliceIn.of_owns Ho13.out) hb14)
          have h2 := IntsIn.row (SliceIn.of_owns ho14)
          rw [Hll.out.2] at h1 h2
          exact ⟨h1, h2⟩
        have hL62 : L ≤ 9223372036854775807 := by have : maxLen ≤ 9223372036854775807 := by decide
                                                  omega
        clear hb14 ho14 Ho13
        refine hK.out _ _ Hb14.out (fun _ => ?_)
        clear hK K
        refine wpAnyH_take (i := 6) (by simp only [List.getElem?_toArray, List.getElem?_cons_succ, List.getElem?_cons_zero]; rfl) (by kernel_rfl) (by kernel_rfl) (by kernel_rfl) (by intro _ _ _ h; exact h) (Or.inl ⟨by rfl, fun w hw => by (skip; go_simp; try rfl)⟩) Hb14.out ?_
        refine wpAnyH_take (i := 7) (by simp only [List.getElem?_toArray, List.getElem?_cons_succ, List.getElem?_cons_zero]; rfl) (by kernel_rfl) (by kernel_rfl) (by kernel_rfl) (by intro _ _ _ h; exact h) (Or.inl ⟨by rfl, fun w hw => by (skip; go_simp; try rfl)⟩) Hb14.out ?_
        go_frame
        refine wpAnyH_done (by kernel_rfl) ?_ _
        go_wp2_with fail
        go_loopg [90] L (fun gk iv wx => ∃ i : Nat, gk = L - i ∧ iv = .int .i64 (i : Int) ∧ i ≤ L ∧ Below w14.heap.size w14 wx)
        case atStart => exact ⟨0, rfl, rfl, Nat.zero_le _, Below.refl _ _⟩
        case round =>
          obtain ⟨i, hgk, rfl, hi, hbw⟩ := hrel
          have Hg := Lib.hid hgk
          have Hbw := Lib.hid hbw
          clear hgk hbw
          by_cases hiL : i < L
          · obtain ⟨y, hy⟩ : ∃ y, l[i]? = some y := ⟨_, List.getElem?_eq_getElem (by rw [← Hll.out.2]; exact hiL)⟩
            obtain ⟨b1, o1, rfl, hb1, hp1⟩ := Hr.out.1.at (i := i) hiL
            obtain ⟨b2, o2, rfl, hb2, hp2⟩ := Hr.out.2.at (i := i) hiL
            have e1 := (Hbw.out.cell (p := ⟨b1, _, none⟩) hb1).trans (hp1 y hy)
            have e2 := (Hbw.out.cell (p := ⟨b2, _, none⟩) hb2).trans (hp2 y hy)
            rw [Nat.mul_one] at e1 e2
            have hbb : b1 < wr.heap.size ∧ b2 < wr.heap.size := by have := Hbw.out.size; omega
            clear hp1 hp2 hy
            go_upto_region 18 with (fail)
            refine wp_region_held (S := Below wr.heap.size wr.drew) rfl ?_
            change wpAnyH _ _ _ _ (Below wr.heap.size wr.drew) _ _ _ wr.drew
            obtain ⟨W15, hW15⟩ : ∃ W0, W0 = wr.drew := ⟨_, rfl⟩
            rw [← hW15]
            have hb15 : Below wr.heap.size wr W15 := by rw [hW15]; exact (Below.refl _ _).drew
            have Hf2 : Hid (∀ W, Below wr.heap.size W15 W → W.cell? ⟨b1, o1 + i, none⟩ = some (.int .i64 y) ∧ W.cell? ⟨b2, o2 + i, none⟩ = some (.int .i64 y)) := fun W hb =>
              ⟨((hb15.trans hb).cell (p := ⟨b1, _, none⟩) hbb.1).trans e1, ((hb15.trans hb).cell (p := ⟨b2, _, none⟩) hbb.2).trans e2⟩
            have Hb15 : Hid (Below wr.heap.size W15 W15) := Below.refl _ _
            have H15 := Lib.hid hb15
            clear hb15 hW15 e1 e2
            refine wpAnyH_take (i := 0) (by simp only [List.getElem?_toArray, List.getElem?_cons_zero]; rfl) (by kernel_rfl) (by kernel_rfl) (by kernel_rfl) (by intro _ _ _ h; exact h) (Or.inl ⟨by rfl, fun w hw => by (obtain ⟨e1, e2⟩ := Hf2.out w hw; go_simp; try rfl)⟩) Hb15.out ?_
            refine wpAnyH_take (i := 1) (by simp only [List.getElem?_toArray, List.getElem?_cons_succ, List.getElem?_cons_zero]; rfl) (by kernel_rfl) (by kernel_rfl) (by kernel_rfl) (by intro _ _ _ h; exact h) (Or.inl ⟨by rfl, fun w hw => by (obtain ⟨e1, e2⟩ := Hf2.out w hw; go_simp; try rfl)⟩) Hb15.out ?_
            go_frame
            refine wpAnyH_take (i := 2) (by simp only [List.getElem?_toArray, List.getElem?_cons_succ, List.getElem?_cons_zero]; rfl) (by kernel_rfl) (by kernel_rfl) (by kernel_rfl) (by intro _ _ _ h; exact h) (Or.inl ⟨by rfl, fun w hw => by (obtain ⟨e1, e2⟩ := Hf2.out w hw; go_simp; try rfl)⟩) Hb15.out ?_
            refine wpAnyH_take (i := 3) (by simp only [List.getElem?_toArray, List.getElem?_cons_succ, List.getElem?_cons_zero]; rfl) (by kernel_rfl) (by kernel_rfl) (by kernel_rfl) (by intro _ _ _ h; exact h) (Or.inl ⟨by rfl, fun w hw => by (obtain ⟨e1, e2⟩ := Hf2.out w hw; go_simp; try rfl)⟩) Hb15.out ?_
            go_frame
            refine wpAnyH_take (i := 4) (by simp only [List.getElem?_toArray, List.getElem?_cons_succ, List.getElem?_cons_zero]; rfl) (by kernel_rfl) (by kernel_rfl) (by kernel_rfl) (by intro _ _ _ h; exact h) (Or.inl ⟨by rfl, fun w hw => by (obtain ⟨e1, e2⟩ := Hf2.out w hw; go_simp; try rfl)⟩) Hb15.out ?_
            refine wpAnyH_take (i := 5) (by simp only [List.getElem?_toArray, List.getElem?_cons_succ, List.getElem?_cons_zero]; rfl) (by kernel_rfl) (by kernel_rfl) (by kernel_rfl) (by intro _ _ _ h; exact h) (Or.inl ⟨by rfl, fun w hw => by (obtain ⟨e1, e2⟩ := Hf2.out w hw; go_simp; try rfl)⟩) Hb15.out ?_
            go_frame
            refine wpAnyH_take (i := 6) (by simp only [List.getElem?_toArray, List.getElem?_cons_succ, List.getElem?_cons_zero]; rfl) (by kernel_rfl) (by kernel_rfl) (by kernel_rfl) (by intro _ _ _ h; exact h) (Or.inl ⟨by rfl, fun w hw => by (obtain ⟨e1, e2⟩ := Hf2.out w hw; go_simp; try rfl)⟩) Hb15.out ?_
            refine wpAnyH_take (i := 7) (by simp only [List.getElem?_toArray, List.getElem?_cons_succ, List.getElem?_cons_zero]; rfl) (by kernel_rfl) (by kernel_rfl) (by kernel_rfl) (by intro _ _ _ h; exact h) (Or.inl ⟨by rfl, fun w hw => by (obtain ⟨e1, e2⟩ := Hf2.out w hw; go_simp; try rfl)⟩) Hb15.out ?_
            go_frame
            refine wpAnyH_take (i := 8) (by simp only [List.getElem?_toArray, List.getElem?_cons_succ, List.getElem?_cons_zero]; rfl) (by kernel_rfl) (by kernel_rfl) (by kernel_rfl) (by intro _ _ _ h; exact h) (Or.inl ⟨by rfl, fun w hw => by (obtain ⟨e1, e2⟩ := Hf2.out w hw; go_simp; try rfl)⟩) Hb15.out ?_
            go_frame
            refine wpAnyH_done (by kernel_rfl) ?_ _
            go_wp2_with fail
            go_roundg (L - (i + 1))
            case measure => have := Hg.out; omega
            case rel => exact ⟨i + 1, rfl, by go_num, hiL, Hbw.out.trans (H15.out.mono Hbw.out.size)⟩
          · obtain rfl : L = i := by omega
            go_wp2_with fail
            have Hbr : Hid (Below B0 W12 wr) := Hb14.out.trans (Hbw.out.mono (Nat.le_trans hB12 Hb14.out.size))
            refine wp_region_held (S := Below B0 wr.drew) rfl ?_
            change wpAnyH _ _ _ _ (Below B0 wr.drew) _ _ _ wr.drew
            obtain ⟨W15, hW15⟩ : ∃ W0, W0 = wr.drew := ⟨_, rfl⟩
            rw [← hW15]
            have hb15 : Below B0 W12 W15 := by rw [hW15]; exact Hbr.out.drew
            have hB15 : B0 ≤ W15.heap.size := Nat.le_trans hB12 hb15.size
            have H15 := Lib.hid hb15
            have Hb15 : Hid (Below B0 W15 W15) := Below.refl _ _
            clear hW15 hb15
            refine wpAnyH_take (i := 0) (by simp only [List.getElem?_toArray, List.getElem?_cons_zero]; rfl) (by kernel_rfl) (by kernel_rfl) (by kernel_rfl) (by intro _ _ _ h; exact h) (Or.inl ⟨by rfl, fun w hw => by (obtain ⟨⟨⟨c0, c1⟩, d0, d1⟩, f0, f1, f2⟩ := Hfc.out w (H15.out.trans hw); go_simp; try rfl)⟩) Hb15.out ?_
            go_frame
            refine wpAnyH_take (i := 2) (by simp only [List.getElem?_toArray, List.getElem?_cons_succ, List.getElem?_cons_zero]; rfl) (by kernel_rfl) (by kernel_rfl) (by kernel_rfl) (by intro _ _ _ h; exact h) (Or.inl ⟨by rfl, fun w hw => by (obtain ⟨⟨⟨c0, c1⟩, d0, d1⟩, f0, f1, f2⟩ := Hfc.out w (H15.out.trans hw); go_simp; try rfl)⟩) Hb15.out ?_
            go_frame
            refine wpAnyH_ready (rs := [1]) (by kernel_rfl) (by simp) ?_
            refine AllReadyH.cons rfl (fun K hK => ?_) AllReadyH.nil
            go_simp
            refine (ncheck_any _ _ _ _ _ W15 (HQf.out W15 H15.out).1).mono ?_
            rintro e w16 ⟨rfl, hb16⟩
            rw [Hnf.out]
            unfold fltV
            have Hb16 : Hid (Below B0 W15 w16) := hb16.mono hB15
            clear hb16
            refine hK.out _ _ Hb16.out (fun _ => ?_)
            clear hK K
            refine wpAnyH_take (i := 3) (by simp only [List.getElem?_toArray, List.getElem?_cons_succ, List.getElem?_cons_zero]; rfl) (by kernel_rfl) (by kernel_rfl) (by kernel_rfl) (by intro _ _ _ h; exact h) (Or.inl ⟨by rfl, fun w hw => by (skip; go_simp; try rfl)⟩) Hb16.out ?_
            go_frame
            refine wpAnyH_take (i := 4) (by simp only [List.getElem?_toArray, List.getElem?_cons_succ, List.getElem?_cons_zero]; rfl) (by kernel_rfl) (by kernel_rfl) (by kernel_rfl) (by intro _ _ _ h; exact h) (Or.inl ⟨by rfl, fun w hw => by (skip; go_simp; try rfl)⟩) Hb16.out ?_
            go_frame
            refine wpAnyH_done (by kernel_rfl) ?_ _
            go_wp2_with fail
            go_ret
            exact ⟨by rfl, (HQf.out w16 (H15.out.trans Hb16.out)).2.2⟩
    · have hx2 : (xa != 0) = true := by simpa using hx
      go_wp2_with fail
      go_ret
      exact ⟨by rfl, H10.out⟩
  by_cases hg : ga = 0
  · subst hg
    have hkk : k < 0 ∨ (n : Int) ≤ k := by omega
    have hd : decide (k < 0) = true ∨ (decide (k < 0) = false ∧ decide ((n : Int) ≤ k) = true) := by
      rcases hkk with h | h
      · exact .inl (by simpa using h)
      · by_cases h0 : k < 0
        · exact .inl (by simpa using h0)
        · exact .inr ⟨by simpa using h0, by simpa using h⟩
    clear hin hkk
    rcases hd with hd | ⟨hd, hd2⟩
    all_goals
      go_upto_region 5 with (fail)
      obtain ⟨B0, hBe⟩ : ∃ B0, B0 = w5.heap.size := ⟨_, rfl⟩
      have hBD : B < B0 ∧ D < B0 := by omega
      refine wp_region_held (S := Below B0 w5.drew) rfl ?_
      change wpAnyH _ _ _ _ (Below B0 w5.drew) _ _ _ w5.drew
      obtain ⟨W0, hW0⟩ : ∃ W0, W0 = w5.drew := ⟨_, rfl⟩
      rw [← hW0]
      have hb0 : Below w5.heap.size w5 W0 := by rw [hW0]; exact (Below.refl _ _).drew
      have hB0 : B0 ≤ W0.heap.size := by rw [hBe]; exact hb0.size
      have Hfc : Hid (∀ W, Below B0 W0 W → (W.cell? ⟨B, 0, none⟩ = some (.slice aw m cw) ∧ W.cell? ⟨B, 1, none⟩ = some (.slice a n cap)) ∧ W.cell? ⟨D, 0, none⟩ = some (.int .i64 ea) ∧ W.cell? ⟨D, 1, none⟩ = some (.int .i64 eb) ∧ W.cell? ⟨D, 2, none⟩ = some (.int .i64 ec)) := fun W hb => by
        have k := fun q j (h : q < B0) => ((hb0.mono (Nat.le_of_eq hBe)).trans hb).cell (p := ⟨q, j, none⟩) h
        exact ⟨⟨(k _ _ hBD.1).trans c0, (k _ _ hBD.1).trans c1⟩, (k _ _ hBD.2).trans f0, (k _ _ hBD.2).trans f1, (k _ _ hBD.2).trans f2⟩
      have Hb : Hid (Below B0 W0 W0) := Below.refl _ _
      have H0 : Hid (Below W.heap.size W W0) := H5.out.1.trans (hb0.mono H5.out.1.size)
      clear hb0 hW0 hBe c0 c1 f0 f1 f2 fz
      refine wpAnyH_take (i := 0) (by simp only [List.getElem?_toArray, List.getElem?_cons_zero]; rfl) (by kernel_rfl) (by kernel_rfl) (by kernel_rfl) (by intro _ _ _ h; exact h) (Or.inl ⟨by rfl, fun w hw => by (obtain ⟨⟨k0, k1⟩, e0, e1, e2⟩ := Hfc.out w hw; go_simp; try rfl)⟩) Hb.out ?_
      go_frame
      refine wpAnyH_ready (rs := [1]) (by kernel_rfl) (by simp) ?_
      refine AllReadyH.cons rfl (fun K hK => ?_) AllReadyH.nil
      go_simp
      refine (check_any p (.slice aw m cw) (.slice a n cap) vp vb W0 (HP.out.later H0.out)).mono ?_
      rintro e w12 ⟨rfl, hb12⟩
      rw [← Hu.out]
      unfold fltV
      have Hb12 : Hid (Below B0 W0 w12) := hb12.mono hB0
      have H12 : Hid (Below W.heap.size W w12) := H0.out.trans (hb12.mono H0.out.size)
      clear hb12
      refine hK.out _ _ Hb12.out (fun _ => ?_)
      clear hK K
      refine wpAnyH_take (i := 2) (by simp only [List.getElem?_toArray, List.getElem?_cons_succ, List.getElem?_cons_zero]; rfl) (by kernel_rfl) (by kernel_rfl) (by kernel_rfl) (by intro _ _ _ h; exact h) (Or.inl ⟨by rfl, fun w hw => by (skip; go_simp; try rfl)⟩) Hb12.out ?_
      refine wpAnyH_take (i := 3) (by simp only [List.getElem?_toArray, List.getElem?_cons_succ, List.getElem?_cons_zero]; rfl) (by kernel_rfl) (by kernel_rfl) (by kernel_rfl) (by intro _ _ _ h; exact h) (Or.inl ⟨by rfl, fun w hw => by (skip; go_simp; try rfl)⟩) Hb12.out ?_
      go_frame
      refine wpAnyH_take (i := 4) (by simp only [List.getElem?_toArray, List.getElem?_cons_succ, List.getElem?_cons_zero]; rfl) (by kernel_rfl) (by kernel_rfl) (by kernel_rfl) (by intro _ _ _ h; exact h) (Or.inl ⟨by rfl, fun w hw => by (skip; go_simp; try rfl)⟩) Hb12.out ?_
      go_frame
      refine wpAnyH_take (i := 5) (by simp only [List.getElem?_toArray, List.getElem?_cons_succ, List.getElem?_cons_zero]; rfl) (by kernel_rfl) (by kernel_rfl) (by kernel_rfl) (by intro _ _ _ h; exact h) (Or.inr ⟨by go_simp, rfl⟩) Hb12.out ?_
      try go_frame
      refine wpAnyH_take (i := 6) (by simp only [List.getElem?_toArray, List.getElem?_cons_succ, List.getElem?_cons_zero]; rfl) (by kernel_rfl) (by kernel_rfl) (by kernel_rfl) (by intro _ _ _ h; exact h) (Or.inr ⟨by go_simp, rfl⟩) Hb12.out ?_
      refine wpAnyH_take (i := 7) (by simp only [List.getElem?_toArray, List.getElem?_cons_succ, List.getElem?_cons_zero]; rfl) (by kernel_rfl) (by kernel_rfl) (by kernel_rfl) (by intro _ _ _ h; exact h) (Or.inr ⟨by go_simp, rfl⟩) Hb12.out ?_
      try go_frame
      refine wpAnyH_take (i := 8) (by simp only [List.getElem?_toArray, List.getElem?_cons_succ, List.getElem?_cons_zero]; rfl) (by kernel_rfl) (by kernel_rfl) (by kernel_rfl) (by intro _ _ _ h; exact h) (Or.inr ⟨by go_simp, rfl⟩) Hb12.out ?_
      try go_frame
      refine wpAnyH_take (i := 9) (by simp only [List.getElem?_toArray, List.getElem?_cons_succ, List.getElem?_cons_zero]; rfl) (by kernel_rfl) (by kernel_rfl) (by kernel_rfl) (by intro _ _ _ h; exact h) (Or.inl ⟨by rfl, fun w hw => by (skip; go_simp; try rfl)⟩) Hb12.out ?_
      go_frame
      refine wpAnyH_take (i := 10) (by simp only [List.getElem?_toArray, List.getElem?_cons_succ, List.getElem?_cons_zero]; rfl) (by kernel_rfl) (by kernel_rfl) (by kernel_rfl) (by intro _ _ _ h; exact h) (Or.inl ⟨by rfl, fun w hw => by (skip; go_simp; try rfl)⟩) Hb12.out ?_
      go_frame
      refine wpAnyH_done (by kernel_rfl) ?_ _
      go_wp2_with fail
      go_ret
      exact ⟨by rfl, H12.out⟩
  · have hne : (ga != 0) = true := by simpa using hg
    clear hin
    go_upto_region 5 with (fail)
    obtain ⟨B0, hBe⟩ : ∃ B0, B0 = w5.heap.size := ⟨_, rfl⟩
    have hBD : B < B0 ∧ D < B0 := by omega
    refine wp_region_held (S := Below B0 w5.drew) rfl ?_
    change wpAnyH _ _ _ _ (Below B0 w5.drew) _ _ _ w5.drew
    obtain ⟨W0, hW0⟩ : ∃ W0, W0 = w5.drew := ⟨_, rfl⟩
    rw [← hW0]
    have hb0 : Below w5.heap.size w5 W0 := by rw [hW0]; exact (Below.refl _ _).drew
    have hB0 : B0 ≤ W0.heap.size := by rw [hBe]; exact hb0.size
    have Hfc : Hid (∀ W, Below B0 W0 W → (W.cell? ⟨B, 0, none⟩ = some (.slice aw m cw) ∧ W.cell? ⟨B, 1, none⟩ = some (.slice a n cap)) ∧ W.cell? ⟨D, 0, none⟩ = some (.int .i64 ea) ∧ W.cell? ⟨D, 1, none⟩ = some (.int .i64 eb) ∧ W.cell? ⟨D, 2, none⟩ = some (.int .i64 ec)) := fun W hb => by
      have k := fun q j (h : q < B0) => ((hb0.mono (Nat.le_of_eq hBe)).trans hb).cell (p := ⟨q, j, none⟩) h
      exact ⟨⟨(k _ _ hBD.1).trans c0, (k _ _ hBD.1).trans c1⟩, (k _ _ hBD.2).trans f0, (k _ _ hBD.2).trans f1, (k _ _ hBD.2).trans f2⟩
    have Hb : Hid (Below B0 W0 W0) := Below.refl _ _
    have H0 : Hid (Below W.heap.size W W0) := H5.out.1.trans (hb0.mono H5.out.1.size)
    clear hb0 hW0 hBe c0 c1 f0 f1 f2 fz
    refine wpAnyH_take (i := 0) (by simp only [List.getElem?_toArray, List.getElem?_cons_zero]; rfl) (by kernel_rfl) (by kernel_rfl) (by kernel_rfl) (by intro _ _ _ h; exact h) (Or.inl ⟨by rfl, fun w hw => by (obtain ⟨⟨k0, k1⟩, e0, e1, e2⟩ := Hfc.out w hw; go_simp; try rfl)⟩) Hb.out ?_
    go_frame
    refine wpAnyH_ready (rs := [1]) (by kernel_rfl) (by simp) ?_
    refine AllReadyH.cons rfl (fun K hK => ?_) AllReadyH.nil
    go_simp
    refine (check_any p (.slice aw m cw) (.slice a n cap) vp vb W0 (HP.out.later H0.out)).mono ?_
    rintro e w12 ⟨rfl, hb12⟩
    rw [← Hu.out]
    unfold fltV
    have Hb12 : Hid (Below B0 W0 w12) := hb12.mono hB0
    have H12 : Hid (Below W.heap.size W w12) := H0.out.trans (hb12.mono H0.out.size)
    clear hb12
    refine hK.out _ _ Hb12.out (fun _ => ?_)
    clear hK K
    have hgb : (ga == 0) = false := by simpa using hg
    refine wpAnyH_take (i := 2) (by simp only [List.getElem?_toArray, List.getElem?_cons_succ, List.getElem?_cons_zero]; rfl) (by kernel_rfl) (by kernel_rfl) (by kernel_rfl) (by intro _ _ _ h; exact h) (Or.inl ⟨by rfl, fun w hw => by (obtain ⟨⟨k0, k1⟩, e0, e1, e2⟩ := Hfc.out w hw; go_simp; try rfl)⟩) Hb12.out ?_
    refine wpAnyH_take (i := 3) (by simp only [List.getElem?_toArray, List.getElem?_cons_succ, List.getElem?_cons_zero]; rfl) (by kernel_rfl) (by kernel_rfl) (by kernel_rfl) (by intro _ _ _ h; exact h) (Or.inl ⟨by rfl, fun w hw => by (obtain ⟨⟨k0, k1⟩, e0, e1, e2⟩ := Hfc.out w hw; go_simp; try rfl)⟩) Hb12.out ?_
    go_frame
    refine wpAnyH_take (i := 4) (by simp only [List.getElem?_toArray, List.getElem?_cons_succ, List.getElem?_cons_zero]; rfl) (by kernel_rfl) (by kernel_rfl) (by kernel_rfl) (by intro _ _ _ h; exact h) (Or.inl ⟨by rfl, fun w hw => by (obtain ⟨⟨k0, k1⟩, e0, e1, e2⟩ := Hfc.out w hw; go_simp; try rfl)⟩) Hb12.out ?_
    refine wpAnyH_take (i := 5) (by simp only [List.getElem?_toArray, List.getElem?_cons_succ, List.getElem?_cons_zero]; rfl) (by kernel_rfl) (by kernel_rfl) (by kernel_rfl) (by intro _ _ _ h; exact h) (Or.inl ⟨by rfl, fun w hw => by (obtain ⟨⟨k0, k1⟩, e0, e1, e2⟩ := Hfc.out w hw; go_simp; try rfl)⟩) Hb12.out ?_
    go_frame
    refine wpAnyH_take (i := 6) (by simp only [List.getElem?_toArray, List.getElem?_cons_succ, List.getElem?_cons_zero]; rfl) (by kernel_rfl) (by kernel_rfl) (by kernel_rfl) (by intro _ _ _ h; exact h) (Or.inl ⟨by rfl, fun w hw => by (obtain ⟨⟨k0, k1⟩, e0, e1, e2⟩ := Hfc.out w hw; go_simp; try rfl)⟩) Hb12.out ?_
    go_frame
    refine wpAnyH_ready (rs := [7]) (by kernel_rfl) (by simp) ?_
    refine AllReadyH.cons rfl (fun K hK => ?_) AllReadyH.nil
    go_simp
    refine (check_any p (.slice aw m cw) (.slice a n cap) vp vb w12 (HP.out.later H12.out)).mono ?_
    rintro e w13 ⟨rfl, hb13⟩
    rw [← Hu.out]
    unfold fltV
    have Hb13 : Hid (Below B0 W0 w13) := Hb12.out.trans (hb13.mono (Nat.le_trans hB0 Hb12.out.size))
    have H13 : Hid (Below W.heap.size W w13) := H12.out.trans (hb13.mono H12.out.size)
    clear hb13
    refine hK.out _ _ Hb13.out (fun _ => ?_)
    clear hK K
    have hnf : (ea, eb, ec) = (ga, gb, gc) := by rw [Ht.out, Hu.out]; exact Pg.nfault_bad (by rw [← Hu.out]; exact hg)
    simp only [Prod.mk.injEq] at hnf
    obtain ⟨rfl, rfl, rfl⟩ := hnf
    refine wpAnyH_take (i := 8) (by simp only [List.getElem?_toArray, List.getElem?_cons_succ, List.getElem?_cons_zero]; rfl) (by kernel_rfl) (by kernel_rfl) (by kernel_rfl) (by intro _ _ _ h; exact h) (Or.inl ⟨by rfl, fun w hw => by (skip; go_simp; try rfl)⟩) Hb13.out ?_
    refine wpAnyH_take (i := 9) (by simp only [List.getElem?_toArray, List.getElem?_cons_succ, List.getElem?_cons_zero]; rfl) (by kernel_rfl) (by kernel_rfl) (by kernel_rfl) (by intro _ _ _ h; exact h) (Or.inl ⟨by rfl, fun w hw => by (skip; go_simp; try rfl)⟩) Hb13.out ?_
    go_frame
    refine wpAnyH_take (i := 10) (by simp only [List.getElem?_toArray, List.getElem?_cons_succ, List.getElem?_cons_zero]; rfl) (by kernel_rfl) (by kernel_rfl) (by kernel_rfl) (by intro _ _ _ h; exact h) (Or.inl ⟨by rfl, fun w hw => by (skip; go_simp; try rfl)⟩) Hb13.out ?_
    go_frame
    refine wpAnyH_done (by kernel_rfl) ?_ _
    go_wp2_with fail
    go_ret
    exact ⟨by rfl, H13.out⟩
end Go.Proofs.Ytneibcpgengdnaa

namespace Go.Proofs.Ytneibcpgengdnaa
open Go.Joins Go.ChangeShapes Go.WideShapes Go.ChangeAt Go.RowKit Go.Deep

theorem wfi_range {k : Int} (h : (Lit.int .i64 k).wf = true) : -9223372036854775808 ≤ k ∧ k ≤ 9223372036854775807 := by
  simp [Lit.wf, IntKind.min, IntKind.max, IntKind.signed, IntKind.bits] at h
  omega
set_option maxRecDepth 100000 in
theorem namesWraps_lifted (os : Os) (started : os.Started) (H : Type) (enc : TypeId × Value → H) :
    ReturnsInHanded {} Try.checked os 9 .any (Rows.namesWrapsSpec.pre6 enc Try.prog Try.f9 Rows.namesWrapsRow.domain false) (Rows.namesWrapsSpec.post enc Try.prog Try.f9 false true false false) :=
  lift_prog_int started (by kernel_rfl) Try.func9 rfl rfl rfl (fun _ _ => rfl)
    (ChangeSpec.witness6 (enc := enc) (C := Try.checked) false ⟨#[], #[.agg #[.slice none 0 0, .slice none 0 0], .int .i64 0], []⟩ 8 (by kernel_rfl) (by kernel_rfl) (by kernel_rfl) (by kernel_rfl))
    (fun W p vw vf vp vb k h hk => lawWraps_any W p vw vf vp vb k h (wfi_range hk))

theorem namesWraps_holds : Rows.NamesWrapsSaid :=
  OpenClaim.holds_of_wide 9 Try.f9 rfl rfl rfl rfl rfl rfl rfl ⟨rfl, rfl, rfl, rfl, rfl⟩ rfl rfl rfl rfl rfl (by kernel_rfl) Try.func9 (by kernel_rfl)
    (of_decide_eq_true (by kernel_rfl)) (by unfold Func.isWrapper; first | (rw [if_pos (by decide +kernel)]; kernel_rfl) | (rw [if_neg (by decide +kernel)]; exact ⟨rfl, rfl⟩))
    (fun os started H enc _ => namesWraps_lifted os started H enc)
end Go.Proofs.Ytneibcpgengdnaa
