/- names: the walker at a statement's own names and expressions. -/
import Derived.Test.YtneibcpgengdnaaNmExpr
import Derived.BigQuiet
import Derived.Deep.QuietTactic
namespace Go.Proofs.Ytneibcpgengdnaa
open Go.RowKit Go.Maps

/-- The names that a statement's own expressions call. -/
def St.nownc (x : St) : List ByteArray := (if x.kind = 8 ∨ x.kind = 2 then [] else x.a.ncalls) ++ (if x.kind = 4 ∨ x.kind = 7 then x.b.ncalls else [])
theorem St.ncalls_eq (x : St) : x.ncalls = x.nownc ++ (St.ncallss x.body ++ (Cs.ncallss x.cases ++ St.ncallss x.els)) := by
  cases x; unfold St.nownc; simp only [St.ncalls, St.kind, St.a, St.b, St.body, St.cases, St.els, List.append_assoc]; rfl
set_option maxRecDepth 100000 in
set_option maxHeartbeats 4000000 in
theorem nfirst_any (x : St) (aa ab ad ae ac : Option Addr) (na nb nd ne nc ca cb cd ce cc : Nat) (w0 : World)
    (fa : NExprOk w0 x.a.args (.slice aa na ca)) (fb : NExprOk w0 x.b.args (.slice ab nb cb)) (hf : x.fine)
    (W : World) (c bk bf bc : Nat) (ov : Value) (K : Known) (G : List ByteArray) (C : List Int) (n loops : Int) (hB : Below w0.heap.size w0 W) (hcb : w0.heap.size ≤ bf) (hK : WAt W c bk bf bc ov K G C n loops) :
    Calls Try.prog 84 #[ptrV c, stVal x (.slice aa na ca) (.slice ab nb cb) (.slice ad nd cd) (.slice ae ne ce) (.slice ac nc cc)] W (fun e W' => e = .returned (.int .i64 (x.nfirst K G loops)) ∧
      ∃ C', WAt W' c bk bf bc ov K G C' n loops ∧ Oth (· = bc) W W' ∧ (x.nfirst K G loops = 0 → ∀ i, i ∈ C' ↔ i ∈ C ∨ idxs G x.nownc i)) := by
  have hff := (St.fine_eq x).1 hf
  have hsz : x.name.size ≤ 16 := St.size_of_own hff.1
  have hsz2 : x.name.size ≤ maxLen := by unfold maxLen; omega
  have Hf := Lib.hid hff
  have Hab := Lib.hid (And.intro fa fb)
  have HB := Lib.hid hB
  have HK := Lib.hid hK
  obtain ⟨W1, hW1⟩ : ∃ W1, W1 = W.alloc (.cells #[.int .i64 x.kind, .string x.name, .int .i64 x.n, .int .i64 x.a.kind, .int .i64 x.a.n, .string x.a.name, .slice aa na ca, .int .i64 x.b.kind, .int .i64 x.b.n, .string x.b.name, .slice ab nb cb, .slice ad nd cd, .slice ae ne ce, .slice ac nc cc] 47) := ⟨_, rfl⟩
  have hb1 : Below W.heap.size W W1 := by rw [hW1]; exact (Below.refl _ _).alloc (Nat.le_refl _) _
  have hv1 : StAt W1 W.heap.size 0 x (.slice aa na ca) (.slice ab nb cb) (.slice ad nd cd) (.slice ae ne ce) (.slice ac nc cc) := by rw [hW1]; exact StAt.box _ _ _ _ _ _ _ _
  have hk := hK.later1 hb1
  have hlb := hK.lts
  have hbc : bc < c := hlb.2.2
  have hbf : w0.heap.size ≤ bc := by omega
  have q1 : W.heap.size < W1.heap.size := block_lt_of_cell hv1.c0
  have H1 := Lib.hid (And.intro hb1 (And.intro hv1 hk))
  have HW1 := Lib.hid hW1
  have qc : c < W.heap.size := block_lt_of_cell hK.c2
  unfold stVal
  clear fa fb hf hff hB hK hW1 hb1 hv1 hk hlb
  go_enter Try.func84, Try.ntmps84
  go_upto_region 2 with (fail)
  rw [← HW1.out]
  obtain ⟨i0, i1, i2, i3, i4, i5, i6, i7, i8, i9, i10, i11, i12, i13⟩ := H1.out.2.1
  simp only [Nat.zero_add] at i1 i2 i3 i4 i5 i6 i7 i8 i9 i10 i11 i12 i13
  clear i2 i11 i12 i13
  go_upto_block 0 with (fail)
  go_cut [1, 5, 7] (fun _ s5 _ wc => s5 = .int .i64 (x.nlead K) ∧ x.kind ≠ 8 ∧ x.kind ≠ 2 ∧ Below W1.heap.size W1 wc)
  case first =>
    have hk := H1.out.2.2
    obtain ⟨S, hS⟩ := hk.sc.kinds
    have c0 := hk.sc.c0
    have c5 := hk.c5
    have HS := Lib.hid hS
    have Hk := Lib.hid hk
    clear hS hk i3 i4 i5 i6 i7 i8 i9 i10
    by_cases h8 : x.kind = 8
    · have hq : (x.kind == 8) = true := by simp [h8]
      by_cases hl : loops = 0
      · have hql : (loops == 0) = true := by simp [hl]
        have Hres : Hid (x.nfirst K G loops = 32) := by show _ = _; unfold St.nfirst; rw [if_pos h8, if_pos hl]
        clear h8 hl
        go_wp2_with fail
        go_ret
        exact ⟨by rw [Hres.out]; rfl, C, Hk.out, .of_below H1.out.1, fun h => by rw [Hres.out] at h; omega⟩
      · have hql : (loops == 0) = false := by simp [hl]
        have Hres : Hid (x.nfirst K G loops = 0 ∧ x.nownc = []) := by
          constructor
          · unfold St.nfirst; rw [if_pos h8, if_neg hl]
          · unfold St.nownc; rw [if_pos (.inl h8), if_neg (by omega)]; rfl
        clear h8 hl
        go_wp2_with fail
        go_ret
        exact ⟨by rw [Hres.out.1]; rfl, C, Hk.out, .of_below H1.out.1, fun h i => by rw [Hres.out.2]; simp [idxs]⟩
    by_cases h2 : x.kind = 2
    · have hq : (x.kind == 8) = false := by simp [h8]
      have hq2 : (x.kind == 2) = true := by simp [h2]
      have Hres : Hid (x.nfirst K G loops = 0 ∧ x.nownc = []) := by
        constructor
        · unfold St.nfirst; rw [if_neg h8, if_pos h2]
        · unfold St.nownc; rw [if_pos (.inr h2), if_neg (by omega)]; rfl
      clear h8 h2
      go_wp2_with fail
      go_ret
      exact ⟨by rw [Hres.out.1]; rfl, C, Hk.out, .of_below H1.out.1, fun h i => by rw [Hres.out.2]; simp [idxs]⟩
    have Hne := Lib.hid (And.intro h8 h2)
    have hq8 : (x.kind == 8) = false := by simp [h8]
    have hq2 : (x.kind == 2) = false := by simp [h2]
    clear h8 h2
    by_cases h3 : x.kind = 3
    · have hq3 : (x.kind == 3) = true := by simp [h3]
      obtain ⟨z, hz⟩ : ∃ z, z = kindOf K x.name := ⟨_, rfl⟩
      obtain ⟨e, he⟩ : ∃ e, e = needE K x.name false := ⟨_, rfl⟩
      have Hlead : Hid (x.nlead K = if e ≠ 0 then e else if z = 4 then 31 else 0) := by show _ = _; unfold St.nlead; rw [if_pos h3, ← he, ← hz]
      have He := Lib.hid he
      have Hz := Lib.hid hz
      clear h3 he hz c5
      go_wp2_with fail
      refine (need_any c bk S K x.name false W1 c0 HS.out.1 hsz2).mono ?_
      rintro e w2 ⟨rfl, hw⟩
      rw [← hw, ← He.out]
      clear hw
      by_cases he0 : e = 0
      · subst he0
        have Hof : Hid (∀ q, Calls Try.prog 106 #[ptrV c, .string x.name] (W1.drewN q) (fun e w' => e = .returned (.int .i64 z) ∧ w' = W1.drewN q)) := fun q => Calls.mono (of_any c bk S (kindOf K) x.name (W1.drewN q) c0 (HS.out.1.later (below_draws _ _) HS.out.1.lt) hsz2) fun _ _ h => ⟨h.1.trans (by rw [Hz.out]), h.2.symm⟩
        by_cases hz4 : z = 4
        all_goals
          have hz5 : (z == 4) = decide (z = 4) := by simp [hz4]
          have Hlead2 : Hid (x.nlead K = if z = 4 then 31 else 0) := by show _ = _; rw [Hlead.out]; rfl
        · rw [decide_eq_true hz4] at hz5
          rw [if_pos hz4] at Hlead2
          clear hz4
          go_wp2_with (go_quiet ((go_at_call 106; exact Calls.quiet_of_same (v := .int .i64 z) (Hof.out _))))
          go_wp2_with fail
          go_meet
          case rel => exact ⟨by rw [Hlead2.out], Hne.out.1, Hne.out.2, below_draws _ _⟩
        · rw [decide_eq_false hz4] at hz5
          rw [if_neg hz4] at Hlead2
          clear hz4
          go_wp2_with (go_quiet ((go_at_call 106; exact Calls.quiet_of_same (v := .int .i64 z) (Hof.out _))))
          go_wp2_with fail
          go_meet
          case rel => exact ⟨by rw [Hlead2.out], Hne.out.1, Hne.out.2, below_draws _ _⟩
      · have hqe : (e == 0) = false := by simp [he0]
        have Hlead2 : Hid (x.nlead K = e) := by show _ = _; rw [Hlead.out, if_pos he0]
        clear he0
        go_wp2_with (go_quiet (fail))
        go_meet
        case rel => exact ⟨by rw [Hlead2.out], Hne.out.1, Hne.out.2, below_draws _ _⟩
    by_cases h4 : x.kind = 4
    · have hq3 : (x.kind == 3) = false := by simp [h3]
      have hq4 : (x.kind == 4) = true := by simp [h4]
      obtain ⟨e, he⟩ : ∃ e, e = needE K x.name true := ⟨_, rfl⟩
      have Hlead : Hid (x.nlead K = e) := by show _ = _; unfold St.nlead; rw [if_neg h3, if_pos h4, ← he]
      have He := Lib.hid he
      clear h3 h4 he c5
      go_wp2_with fail
      refine (need_any c bk S K x.name true W1 c0 HS.out.1 hsz2).mono ?_
      rintro e w2 ⟨rfl, hw⟩
      rw [← hw, ← He.out]
      clear hw
      go_wp2_with fail
      go_meet
      case rel => exact ⟨by rw [Hlead.out], Hne.out.1, Hne.out.2, Below.refl _ _⟩
    · have hq3 : (x.kind == 3) = false := by simp [h3]
      have hq4 : (x.kind == 4) = false := by simp [h4]
      have Hlead : Hid (x.nlead K = 0) := by show _ = _; unfold St.nlead; rw [if_neg h3, if_neg h4]
      clear h3 h4 c5
      go_wp2_with fail
      go_meet
      case rel => exact ⟨by rw [Hlead.out], Hne.out.1, Hne.out.2, Below.refl _ _⟩
  case rest =>
    obtain ⟨rfl, hn8, hn2, hbw⟩ := hcut
    obtain ⟨V, hV⟩ : ∃ V : World, V = wc := ⟨_, rfl⟩
    subst hV
    have hvV := H1.out.2.1.later hbw q1
    have HKV := Lib.hid (H1.out.2.2.later1 hbw)
    have HOV : Hid (Oth (· = bc) W V) := .of_below (H1.out.1.trans (hbw.mono (by omega)))
    have HBV : Hid (Below w0.heap.size w0 V) := HB.out.trans (HOV.out.below HB.out.size fun _ e => by omega)
    have hlen := hbw.size
    obtain ⟨e, he⟩ : ∃ e, e = x.nlead K := ⟨_, rfl⟩
    have He := Lib.hid he
    have Hfirst : Hid (x.nfirst K G loops = if e ≠ 0 then e else if x.a.nerr K G ≠ 0 then x.a.nerr K G else if x.kind = 4 ∨ x.kind = 7 then x.b.nerr K G else 0) := by
      show _ = _
      unfold St.nfirst
      rw [if_neg hn8, if_neg hn2, ← he]
    have Hownc : Hid (x.nownc = x.a.ncalls ++ (if x.kind = 4 ∨ x.kind = 7 then x.b.ncalls else [])) := by
      show _ = _
      unfold St.nownc
      rw [if_neg (by omega)]
    rw [← he]
    have Hv := Lib.hid hvV
    obtain ⟨j0, j1, j2, j3, j4, j5, j6, j7, j8, j9, j10, j11, j12, j13⟩ := hvV
    simp only [Nat.zero_add] at j1 j2 j3 j4 j5 j6 j7 j8 j9 j10 j11 j12 j13
    clear i0 i1 i3 i4 i5 i6 i7 i8 i9 i10 hn8 hn2 hbw he j1 j2 j11 j12 j13
    by_cases he0 : e = 0
    · subst he0
      have Hf2 : Hid (x.nfirst K G loops = if x.a.nerr K G ≠ 0 then x.a.nerr K G else if x.kind = 4 ∨ x.kind = 7 then x.b.nerr K G else 0) := by show _ = _; rw [Hfirst.out, if_neg (by decide)]
      go_wp2_with fail
      refine (Hab.out.1 x.a rfl Hf.out.2.1 V c bk bf bc ov K G C n loops HBV.out hcb HKV.out).mono ?_
      rintro e w5 ⟨rfl, C5, hK5, hO5, hC5⟩
      have H5 := Lib.hid (And.intro hK5 (And.intro (HOV.out.trans hO5) hC5))
      obtain ⟨ea, hea⟩ : ∃ z, z = x.a.nerr K G := ⟨_, rfl⟩
      have Hea := Lib.hid hea
      rw [← hea]
      have hv5 := Hv.out.oth hO5 (by omega) (by omega)
      have HB5 : Hid (Below w0.heap.size w0 w5) := HBV.out.trans (hO5.below HBV.out.size fun _ e => by omega)
      obtain ⟨k0, k1, k2, k3, k4, k5, k6, k7, k8, k9, k10, k11, k12, k13⟩ := hv5
      simp only [Nat.zero_add] at k1 k2 k3 k4 k5 k6 k7 k8 k9 k10 k11 k12 k13
      clear j0 j3 j4 j5 j6 j7 j8 j9 j10 hea hK5 hO5 hC5 k1 k2 k3 k4 k5 k6 k11 k12 k13
      by_cases hea0 : ea = 0
      · subst hea0
        have Hf3 : Hid (x.nfirst K G loops = if x.kind = 4 ∨ x.kind = 7 then x.b.nerr K G else 0) := by show _ = _; rw [Hf2.out, ← Hea.out]; rfl
        by_cases h4 : x.kind = 4 ∨ x.kind = 7
        · have hq : (x.kind == 4) = decide (x.kind = 4) := by by_cases h : x.kind = 4 <;> simp [h]
          have hq7 : (x.kind == 7) = decide (x.kind = 7) := by by_cases h : x.kind = 7 <;> simp [h]
          have Hf4 : Hid (x.nfirst K G loops = x.b.nerr K G) := by show _ = _; rw [Hf3.out, if_pos h4]
          have Hc4 : Hid (x.nownc = x.a.ncalls ++ x.b.ncalls) := by show _ = _; rw [Hownc.out, if_pos h4]
          by_cases h44 : x.kind = 4
          · rw [decide_eq_true h44] at hq
            clear h4 h44 hq7
            go_wp2_with fail
            refine (Hab.out.2 x.b rfl Hf.out.2.2.1 w5 c bk bf bc ov K G C5 n loops HB5.out hcb H5.out.1).mono ?_
            rintro e w6 ⟨rfl, C6, hK6, hO6, hC6⟩
            have H6 := Lib.hid (And.intro hK6 (And.intro (H5.out.2.1.trans hO6) hC6))
            clear hK6 hO6 hC6
            go_wp2_with fail
            go_ret
            exact ⟨by rw [Hf4.out]; rfl, C6, H6.out.1, H6.out.2.1, fun h i => by rw [H6.out.2.2 (by rw [← Hf4.out]; exact h), H5.out.2.2 Hea.out.symm, Hc4.out, idxs_append, or_assoc]⟩
          · rw [decide_eq_false h44] at hq
            have h77 : x.kind = 7 := h4.resolve_left h44
            rw [decide_eq_true h77] at hq7
            clear h4 h44 h77
            go_wp2_with fail
            refine (Hab.out.2 x.b rfl Hf.out.2.2.1 w5 c bk bf bc ov K G C5 n loops HB5.out hcb H5.out.1).mono ?_
            rintro e w6 ⟨rfl, C6, hK6, hO6, hC6⟩
            have H6 := Lib.hid (And.intro hK6 (And.intro (H5.out.2.1.trans hO6) hC6))
            clear hK6 hO6 hC6
            go_wp2_with fail
            go_ret
            exact ⟨by rw [Hf4.out]; rfl, C6, H6.out.1, H6.out.2.1, fun h i => by rw [H6.out.2.2 (by rw [← Hf4.out]; exact h), H5.out.2.2 Hea.out.symm, Hc4.out, idxs_append, or_assoc]⟩
        · have hq : (x.kind == 4) = false := by simp; omega
          have hq7 : (x.kind == 7) = false := by simp; omega
          have Hf4 : Hid (x.nfirst K G loops = 0) := by show _ = _; rw [Hf3.out, if_neg h4]
          have Hc4 : Hid (x.nownc = x.a.ncalls) := by show _ = _; rw [Hownc.out, if_neg h4, List.append_nil]
          clear h4
          go_wp2_with fail
          go_ret
          exact ⟨by rw [Hf4.out]; rfl, C5, H5.out.1, H5.out.2.1, fun h i => by rw [H5.out.2.2 Hea.out.symm, Hc4.out]⟩
      · have hqe : (ea == 0) = false := by simp [hea0]
        have Hres : Hid (x.nfirst K G loops = ea ∧ ea ≠ 0) := by constructor; rw [Hf2.out, ← Hea.out, if_pos hea0]; exact hea0
        clear hea0
        go_wp2_with fail
        go_ret
        exact ⟨by rw [Hres.out.1]; rfl, C5, H5.out.1, H5.out.2.1, fun h => absurd (by rw [← Hres.out.1]; exact h) Hres.out.2⟩
    · have hqe : (e == 0) = false := by simp [he0]
      have Hres : Hid (x.nfirst K G loops = e ∧ e ≠ 0) := by constructor; rw [Hfirst.out, if_pos he0]; exact he0
      clear he0
      go_wp2_with fail
      go_ret
      exact ⟨by rw [Hres.out.1]; rfl, C, HKV.out, HOV.out, fun h => absurd (by rw [← Hres.out.1]; exact h) Hres.out.2⟩
end Go.Proofs.Ytneibcpgengdnaa
