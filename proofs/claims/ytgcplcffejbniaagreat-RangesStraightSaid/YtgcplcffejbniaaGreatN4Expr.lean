/- R4's look at names: a use, a new name, a call, an expression. -/
import Derived.Test.YtgcplcffejbniaaGreatN4Base
import Derived.Test.YtgcplcffejbniaaGreatNmFlt
namespace Go.Proofs.YtgcplcffejbniaaGreat
open Go.RowKit Go.Maps

set_option maxRecDepth 100000 in
set_option maxHeartbeats 1000000 in
theorem ruses_any (w : World) (c bs : Nat) (vw vf kv : Value) (K : Known) (fn n loops e : Int) (N : Nat) (C : List Int) (s : ByteArray) (arr : Bool) (h : RAt w c bs vw vf kv K fn n loops e N C) (hl : K.length ≤ 100000) :
    Calls Tryz.prog 124 #[ptrV c, .string s, .bool arr] w (fun E w' => E = .returned (.tuple #[]) ∧ RAt w' c bs vw vf kv K fn n loops (keepE e (needE K s arr)) N C ∧ WStep w w' c bs bs kv kv) := by
  have H := Lib.hid h
  have hz := kindOf_mem h.kinds s
  obtain ⟨z, hzz⟩ : ∃ z, z = kindOf K s := ⟨_, rfl⟩
  have Hz := Lib.hid hzz
  have Hn : Hid (needE K s arr = if z = 0 then 8 else if decide (z = 3) ≠ arr then 30 else 0) := by show _ = _; unfold needE; rw [← hzz]
  rw [← hzz] at hz
  have hz5 : z = 0 ∨ z = 1 ∨ z = 2 ∨ z = 3 ∨ z = 4 := by omega
  have Hl := Lib.hid hl
  clear h hz hzz hl
  go_enter Tryz.func124, Tryz.ntmps124
  go_wp2_with fail
  refine (rkind_any w c bs vw vf kv K fn n loops e N C s H.out Hl.out).mono ?_
  rintro E w2 ⟨rfl, hw⟩
  rw [← hw, ← Hz.out]
  clear hw
  have Hkeep : Hid (keepE e 0 = e) := by show _ = _; unfold keepE; split <;> simp_all
  rcases hz5 with rfl | rfl | rfl | rfl | rfl
  · have Hr : Hid (needE K s arr = 8) := Hn.out
    unfold kb
    go_wp2_with fail
    refine (rwrong_any w c bs vw vf kv K fn n loops e N C 8 H.out).mono ?_
    rintro E w3 ⟨rfl, h3, s3⟩
    have H3 := Lib.hid (And.intro h3 s3)
    clear h3 s3
    go_wp2_with fail
    refine bodyPost_end (results_none rfl _ _ _) rfl ?_
    exact ⟨rfl, by rw [Hr.out]; exact H3.out.1, H3.out.2⟩
  all_goals
    cases arr
    all_goals
      first
        | have Hr : Hid (needE K s false = 0) := Hn.out
        | have Hr : Hid (needE K s false = 30) := Hn.out
        | have Hr : Hid (needE K s true = 0) := Hn.out
        | have Hr : Hid (needE K s true = 30) := Hn.out
      unfold kb
      go_wp2_with fail
      first
        | (refine bodyPost_end (results_none rfl _ _ _) rfl ?_
           exact ⟨rfl, by rw [Hr.out, Hkeep.out]; exact H.out, .refl _ _ _ _ _⟩)
        | (refine (rwrong_any w c bs vw vf kv K fn n loops e N C 30 H.out).mono ?_
           rintro E w3 ⟨rfl, h3, s3⟩
           have H3 := Lib.hid (And.intro h3 s3)
           clear h3 s3
           go_wp2_with fail
           refine bodyPost_end (results_none rfl _ _ _) rfl ?_
           exact ⟨rfl, by rw [Hr.out]; exact H3.out.1, H3.out.2⟩)
/-- A new name is known behind it, whether it is wrong or not. -/
def freshE (K : Known) (s : ByteArray) : Int := if kindOf K s ≠ 0 then 9 else 0
set_option maxRecDepth 100000 in
set_option maxHeartbeats 1000000 in
theorem rfresh_any (w : World) (c bs : Nat) (vw vf kv : Value) (K : Known) (fn n loops e : Int) (N : Nat) (C : List Int) (s : ByteArray) (k b : Int) (h : RAt w c bs vw vf kv K fn n loops e N C) (hl : K.length ≤ 99999) (hk : 1 ≤ k ∧ k ≤ 4) (hb : kb k = b) :
    Calls Tryz.prog 47 #[ptrV c, .string s, .int .u8 b] w (fun E w' => E = .returned (.tuple #[]) ∧ ∃ kv', RAt w' c bs vw vf kv' (K ++ [(s, k)]) fn n loops (keepE e (freshE K s)) N C ∧ WStep w w' c bs bs kv kv') := by
  obtain ⟨a, cap, hkv, -⟩ := h.known.form
  obtain ⟨m, hm⟩ : ∃ m, m = K.length := ⟨_, rfl⟩
  rw [← hm] at hkv
  subst hkv
  have Hm := Lib.hid hm
  have Hk := Lib.hid (And.intro hk hb)
  have hz := kindOf_mem h.kinds s
  obtain ⟨z, hzz⟩ : ∃ z, z = kindOf K s := ⟨_, rfl⟩
  have Hz := Lib.hid hzz
  have Hf : Hid (freshE K s = if z ≠ 0 then 9 else 0) := by show _ = _; unfold freshE; rw [← hzz]
  rw [← hzz] at hz
  have H := Lib.hid h
  have Hl := Lib.hid hl
  obtain ⟨zb, hzb⟩ : ∃ zb, zb = kb z := ⟨_, rfl⟩
  have hkz : z = 0 ∧ zb = 0 ∨ z ≠ 0 ∧ (zb != 0) = true := by
    rcases hz with h0 | h0
    · exact .inl ⟨h0, by rw [hzb, h0]; rfl⟩
    · exact .inr ⟨by omega, by rw [hzb]; simp [kb_zero h0]⟩
  have Hzb := Lib.hid hzb
  clear h hz hzz hl hk hb hzb hm
  go_enter Tryz.func47, Tryz.ntmps47
  go_wp2_with fail
  refine (rkind_any w c bs vw vf _ K fn n loops e N C s H.out (by have := Hl.out; omega)).mono ?_
  rintro E w2 ⟨rfl, hw⟩
  rw [← hw, ← Hz.out, ← Hzb.out]
  clear hw
  have Hend : Hid (∀ w1 e1, RAt w1 c bs vw vf (.slice a m cap) K fn n loops e1 N C → WStep w w1 c bs bs (.slice a m cap) (.slice a m cap) → ∀ v4 w4, OwnVars w4 (c + 1) v4 (K ++ [(s, k)]) → (w1.alloc (.cells #[.string s, .int .u8 b] 58)).grownBy w4 (Value.slice a m cap).ownBlock → Fresh (w1.alloc (.cells #[.string s, .int .u8 b] 58)) (.slice a m cap) v4 →
      (w4.cell? ⟨c, 5, none⟩ = some (.slice a m cap) ∧ w4.frozen? ⟨c, 5, none⟩ = false) ∧ RAt (w4.setCell ⟨c, 5, none⟩ v4) c bs vw vf v4 (K ++ [(s, k)]) fn n loops e1 N C ∧ WStep w (w4.setCell ⟨c, 5, none⟩ v4) c bs bs (.slice a m cap) v4) := by
    intro w1 e1 h1 s1 v4 w4 hown hg hfr
    have q := h1.in
    have ow := h1.own
    have hOa : Oth (fun j => (Value.slice a m cap).ownBlock = some j) w1 (w1.alloc (.cells #[.string s, .int .u8 b] 58)) := .of_below ((Below.refl _ _).alloc (Nat.le_refl _) _)
    have hO : Oth (fun j => (Value.slice a m cap).ownBlock = some j) w1 w4 := hOa.trans ⟨hg.os, hg.tape, hg.output, hg.size, fun i hi hc => hg.block i hi (fun e => hc e.symm)⟩
    have hnc : ¬ (Value.slice a m cap).ownBlock = some c := fun e => by have := ow c e; omega
    have hnb : ¬ (Value.slice a m cap).ownBlock = some bs := fun e => by have := ow bs e; have := h1.lt; omega
    have hK : ∀ p ∈ K ++ [(s, k)], 1 ≤ p.2 ∧ p.2 ≤ 4 := fun p hp => by
      rcases List.mem_append.1 hp with h | h
      · exact h1.kinds p h
      · simp at h; subst h; exact Hk.out.1
    refine ⟨⟨(hO.cell (p := ⟨c, 5, none⟩) q hnc).trans h1.c5, (hO.frozen (p := ⟨c, 5, none⟩) q hnc).trans (h1.f 5 (by decide))⟩, h1.putKnown hO hnc hnb hown hK, s1.trans ⟨⟨hO.os, hO.tape, hO.output, by rw [size_set]; exact hO.size, fun i hi hs => ?_⟩, fun i hi he => ?_⟩⟩
    · have h1 : i ≠ c := fun e => hs (.inr (.inl e))
      rw [Below.heap_setCell _ _ _ _ (fun e => h1 (by rw [e]))]
      exact hO.block i hi fun e => hs (.inr (.inr (.inr e)))
    · by_cases h : (Value.slice a m cap).ownBlock = some i
      · exact h
      · exact absurd he (hfr i (by simp; omega) h)
  rcases hkz with ⟨rfl, rfl⟩ | ⟨hz0, hzq⟩
  · have Hr : Hid (keepE e (freshE K s) = e) := by show _ = _; rw [Hf.out]; unfold keepE; split <;> simp_all
    have c5 := H.out.c5
    have qc : c < w.heap.size := H.out.in
    have hKl : K.length ≤ 1000000000000 := by have := Hl.out; omega
    go_wp2_with (at_builtin; refine append_var rfl _ _ rfl (c + 1) _ K rfl H.out.known s b k Hk.out.2 rfl hKl (by omega) ?_; intro v4 w4 hown4 hg4 hfr4; have H4 := Lib.hid (Hend.out w e H.out (.refl _ _ _ _ _) v4 w4 hown4 hg4 hfr4); obtain ⟨a4, n4, hv4, -⟩ := hown4.form; obtain ⟨m4, hm4⟩ : ∃ m4, m4 = (K ++ [(s, k)]).length := ⟨_, rfl⟩; rw [← hm4] at hv4; subst hv4; clear hm4; obtain ⟨d5, df5⟩ := H4.out.1; clear c5 hown4 hg4 hfr4)
    refine bodyPost_end (results_none rfl _ _ _) rfl ?_
    exact ⟨rfl, _, by rw [Hr.out]; exact H4.out.2.1, H4.out.2.2⟩
  · have Hr : Hid (freshE K s = 9) := by show _ = _; rw [Hf.out, if_pos hz0]
    clear hz0
    go_wp2_with fail
    refine (rwrong_any w c bs vw vf _ K fn n loops e N C 9 H.out).mono ?_
    rintro E w3 ⟨rfl, h3, s3⟩
    have H3 := Lib.hid (And.intro h3 s3)
    have c5 := h3.c5
    have qc : c < w3.heap.size := h3.in
    have hKl : K.length ≤ 1000000000000 := by have := Hl.out; omega
    clear h3 s3
    go_wp2_with (at_builtin; refine append_var rfl _ _ rfl (c + 1) _ K rfl H3.out.1.known s b k Hk.out.2 rfl hKl (by omega) ?_; intro v4 w4 hown4 hg4 hfr4; have H4 := Lib.hid (Hend.out w3 _ H3.out.1 H3.out.2 v4 w4 hown4 hg4 hfr4); obtain ⟨a4, n4, hv4, -⟩ := hown4.form; obtain ⟨m4, hm4⟩ : ∃ m4, m4 = (K ++ [(s, k)]).length := ⟨_, rfl⟩; rw [← hm4] at hv4; subst hv4; clear hm4; obtain ⟨d5, df5⟩ := H4.out.1; clear c5 hown4 hg4 hfr4)
    refine bodyPost_end (results_none rfl _ _ _) rfl ?_
    exact ⟨rfl, _, by rw [Hr.out]; exact H4.out.2.1, H4.out.2.2⟩
theorem RAt.putCall {w : World} {c bs : Nat} {vw vf kv : Value} {K : Known} {fn n loops e : Int} {N : Nat} {C : List Int} (h : RAt w c bs vw vf kv K fn n loops e N C) {i : Nat} (hi : i < N) : RAt (w.setCell ⟨bs, i, none⟩ (.bool true)) c bs vw vf kv K fn n loops e N (insI C (i : Int)) := by
  have l := h.lt
  have q := h.in
  have ow := h.own
  have hO : Oth (· = bs) w (w.setCell ⟨bs, i, none⟩ (.bool true)) := (Oth.refl (· = bs) w).set (p := ⟨bs, i, none⟩) rfl _
  have k := fun j => hO.cell (p := ⟨c, j, none⟩) q (by show ¬ c = bs; omega)
  refine ⟨(k _).trans h.c0, (k _).trans h.c1, (k _).trans h.c2, (k _).trans h.c3, (k _).trans h.c4, (k _).trans h.c5, (k _).trans h.c6, (k _).trans h.c7, fun j hj => (hO.frozen (p := ⟨c, j, none⟩) q (by show ¬ c = bs; omega)).trans (h.f j hj), h.known.oth hO (fun g e => by have := ow g e; omega), h.kinds, fun j hj => ⟨?_, (World.frozen?_setCell _ _ _ _).trans (h.calls j hj).2⟩, l⟩
  by_cases e : j = i
  · subst e
    have h1 : (j : Int) ∈ insI C (j : Int) := (insI_mem _ _ _).2 (.inl rfl)
    rw [decide_eq_true h1]
    exact World.cell?_setCell_same' _ _ _ (by rw [(h.calls j hj).1]; rfl)
  · have h1 : decide ((j : Int) ∈ insI C (i : Int)) = decide ((j : Int) ∈ C) := decide_eq_decide.2 (by rw [insI_mem]; constructor; rintro (h | h); omega; exact h; exact .inr)
    rw [h1]
    exact (World.cell?_setCell_other _ _ _ _ (by intro e1; injection e1 with _ e2; exact e e2.symm)).trans (h.calls j hj).1
/-- The program that a walk looks at: function k of it. -/
structure R4Ctx (w0 : World) (F : List Fn) (vf : Value) (vp vb : Nat → Value) (k : Nat) : Prop where
  fns : FnsIn w0 F vf vp vb
  at_ : k < F.length
  few : F.length ≤ 32
  one : (gAt F k).Nodup
theorem nodup_at {G : List ByteArray} (h : G.Nodup) {i j : Nat} {s : ByteArray} (hi : G[i]? = some s) (hj : G[j]? = some s) : i = j := by
  obtain ⟨h1, e1⟩ := List.getElem?_eq_some_iff.1 hi
  obtain ⟨h2, e2⟩ := List.getElem?_eq_some_iff.1 hj
  exact (List.getElem_inj h).1 (e1.trans e2.symm)
theorem gAt_length {F : List Fn} {k : Nat} (h : k ≤ F.length) : (gAt F k).length = k := by unfold gAt; simp; omega
theorem gAt_get {F : List Fn} {k i : Nat} {x : Fn} (hx : F[i]? = some x) (hi : i < k) : (gAt F k)[i]? = some x.name := gAt_at hx hi
/-- What a call leaves. -/
def CalledPost (w w' : World) (c bs : Nat) (vw vf kv : Value) (K : Known) (k n loops : Int) (N : Nat) (C : List Int) (G : List ByteArray) (s : ByteArray) : Prop :=
  ∃ C', RAt w' c bs vw vf kv K k n loops (if s ∈ G then 0 else 8) N C' ∧ WStep w w' c bs bs kv kv ∧ (s ∈ G → ∀ z, z ∈ C' ↔ z ∈ C ∨ idxs G [s] z)
set_option maxRecDepth 100000 in
set_option maxHeartbeats 1000000 in
theorem rcalled_any (w0 w : World) (F : List Fn) (vp vb : Nat → Value) (k : Nat) (c bs : Nat) (vw vf kv : Value) (K : Known) (n loops : Int) (C : List Int) (s : ByteArray) (hx : R4Ctx w0 F vf vp vb k) (hB : Below w0.heap.size w0 w) (h : RAt w c bs vw vf kv K (k : Int) n loops 0 F.length C) :
    Calls Tryz.prog 134 #[ptrV c, .string s] w (fun E w' => E = .returned (.tuple #[]) ∧ CalledPost w w' c bs vw vf kv K (k : Int) n loops F.length C (gAt F k) s) := by
  obtain ⟨a, cap, rfl, hc1, hc2⟩ := hx.fns.row.form
  obtain ⟨N, hN⟩ : ∃ N, N = F.length := ⟨_, rfl⟩
  have Hrow : Hid (RowOf w0 (.slice a N cap) F.length 3 (fun b o i => ∀ x, F[i]? = some x → FnCells w0 b o x (vp i) (vb i))) := by rw [hN]; exact hx.fns.row
  have hk := hx.at_
  have hf := hx.few
  have HN := Lib.hid hN
  rw [← hN] at h hk hf hc1
  rw [← hN]
  have Hx := Lib.hid hx.one
  have H := Lib.hid h
  have HB := Lib.hid hB
  obtain ⟨G, hG⟩ : ∃ G, G = gAt F k := ⟨_, rfl⟩
  rw [← hG]
  rw [← hG] at Hx
  have HG := Lib.hid hG
  have c1 := h.c1
  have c2 := h.c2
  have c7 := h.c7
  have qc := h.in
  have ql := h.lt
  have hn62 : cap ≤ 9223372036854775807 := by have : maxLen ≤ 9223372036854775807 := by decide
                                              omega
  clear hx h hN hB hG
  go_enter Tryz.func134, Tryz.ntmps134
  go_wp2_with fail
  go_loopg [4] k (fun g iv wx => ∃ i : Nat, g = k - i ∧ iv = .int .i64 (i : Int) ∧ i ≤ k ∧ (∀ j x, j < i → F[j]? = some x → x.name ≠ s) ∧ wx = w)
  case atStart => exact ⟨0, rfl, rfl, Nat.zero_le _, fun j x h => absurd h (Nat.not_lt_zero _), rfl⟩
  case round =>
    obtain ⟨i, hg, rfl, hi, hn, rfl⟩ := hrel
    have Hg := Lib.hid hg
    have Hn := Lib.hid hn
    clear hg hn
    by_cases hik : i < k
    · obtain ⟨x, hx⟩ : ∃ x, F[i]? = some x := ⟨_, List.getElem?_eq_getElem (by rw [← HN.out]; omega)⟩
      obtain ⟨b, off, rfl, hb, hP⟩ := Hrow.out.at (i := i) (by rw [← HN.out]; omega)
      obtain ⟨i0, i1, i2⟩ := (hP x hx).later HB.out hb
      have Hxx := Lib.hid hx
      have hiN : i < N := by omega
      clear hx hP i1 i2
      by_cases hs : x.name = s
      · have hq : (x.name.toList == s.toList) = true := by rw [bytes_beq]; exact decide_eq_true hs
        have hGi : G[i]? = some s := by rw [HG.out, ← hs]; exact gAt_get Hxx.out hik
        have HGi := Lib.hid hGi
        obtain ⟨j0, j1⟩ := H.out.calls i hiN
        obtain ⟨bb, hbb⟩ : ∃ bb, bb = decide ((i : Int) ∈ C) := ⟨_, rfl⟩
        rw [← hbb] at j0
        clear hs hGi hbb
        go_wp2_with fail
        refine bodyPost_ret (results_none rfl _ _ _) rfl ?_
        have hin : s ∈ G := List.mem_of_getElem? HGi.out
        refine ⟨rfl, insI C (i : Int), by rw [if_pos hin]; exact H.out.putCall hiN, ⟨(Oth.refl _ _).set (p := ⟨bs, i, none⟩) (.inl rfl) _, fun _ _ h => h⟩, fun _ z => ?_⟩
        rw [insI_mem, Or.comm]
        refine or_congr Iff.rfl ⟨fun e => ⟨i, s, e, HGi.out, by simp⟩, ?_⟩
        rintro ⟨k2, s2, rfl, e2, e3⟩
        simp only [List.mem_cons, List.not_mem_nil, or_false] at e3
        rw [e3] at e2
        rw [nodup_at Hx.out e2 HGi.out]
      · have hq : (x.name.toList == s.toList) = false := by rw [bytes_beq]; exact decide_eq_false hs
        have Hs := Lib.hid hs
        clear hs
        go_wp2_with fail
        go_roundg (k - (i + 1))
        case measure => have := Hg.out; omega
        case rel => exact ⟨i + 1, rfl, by go_num, hik, fun j y hj hy => by
            by_cases e : j = i
            · subst e
              rw [Hxx.out] at hy
              cases hy; exact Hs.out
            · exact Hn.out j y (by omega) hy, rfl⟩
    · obtain rfl : k = i := by omega
      have Hno : Hid (s ∉ G) := fun hm => by
        obtain ⟨j, hj⟩ := List.mem_iff_getElem?.1 hm
        have hjl : j < k := by have := (List.getElem?_eq_some_iff.1 hj).1; rw [HG.out, gAt_length (by rw [← HN.out]; omega)] at this; exact this
        obtain ⟨x, hx⟩ : ∃ x, F[j]? = some x := ⟨_, List.getElem?_eq_getElem (by rw [← HN.out]; omega)⟩
        have h1 := gAt_get hx hjl
        rw [← HG.out, hj] at h1
        cases h1
        exact Hn.out j x hjl hx rfl
      clear hik
      go_wp2_with fail
      refine (rwrong_any wr c bs vw _ kv K (k : Int) n loops 0 N C 8 H.out).mono ?_
      rintro E w3 ⟨rfl, h3, s3⟩
      have H3 := Lib.hid (And.intro h3 s3)
      clear h3 s3
      go_wp2_with fail
      refine bodyPost_end (results_none rfl _ _ _) rfl ?_
      exact ⟨rfl, C, by rw [if_neg Hno.out]; have h := H3.out.1; rw [keepE_zero] at h; exact h, H3.out.2, fun h => absurd h Hno.out⟩
/-- What a look at an expression leaves: e wrong first, ns called. -/
def R4EPost (W W' : World) (c bs : Nat) (vw vf kv : Value) (K : Known) (k n loops e : Int) (N : Nat) (C : List Int) (G ns : List ByteArray) : Prop :=
  ∃ C', RAt W' c bs vw vf kv K k n loops e N C' ∧ WStep W W' c bs bs kv kv ∧ (e = 0 → ∀ z, z ∈ C' ↔ z ∈ C ∨ idxs G ns z)
def R4ExprOk (w0 : World) (F : List Fn) (vf : Value) (k : Nat) (l : List Ex) (v : Value) : Prop := ∀ x : Ex, x.args = l → ∀ (W : World) (c bs : Nat) (vw kv : Value) (K : Known) (n loops : Int) (C : List Int), Below w0.heap.size w0 W → w0.heap.size ≤ bs → RAt W c bs vw vf kv K (k : Int) n loops 0 F.length C → K.length ≤ 100000 →
  Calls Tryz.prog 125 #[ptrV c, exVal x v] W (fun E W' => E = .returned (.tuple #[]) ∧ R4EPost W W' c bs vw vf kv K (k : Int) n loops (x.nerr K (gAt F k)) F.length C (gAt F k) x.ncalls)
theorem RAt.wt {w : World} {c bs : Nat} {vw vf kv : Value} {K : Known} {fn n loops e : Int} {N : Nat} {C : List Int} (h : RAt w c bs vw vf kv K fn n loops e N C) {j : Nat} (hj : WT c bs bs kv j) : bs ≤ j ∧ j < w.heap.size := by
  have l := h.lt
  have q := h.in
  rcases hj with h2 | h2 | h2 | h2
  · omega
  · omega
  · omega
  · have := h.own j h2; omega
theorem WStep.below4 {w w0 w' : World} {c bs : Nat} {vw vf kv kv' : Value} {K : Known} {fn n loops e : Int} {N : Nat} {C : List Int} (h : WStep w w' c bs bs kv kv') (hK : RAt w c bs vw vf kv K fn n loops e N C) (hB : Below w0.heap.size w0 w) (hb : w0.heap.size ≤ bs) : Below w0.heap.size w0 w' :=
  hB.trans (h.oth.below hB.size fun k hk => by have := (hK.wt hk).1; omega)
set_option maxRecDepth 100000 in
set_option maxHeartbeats 4000000 in
theorem r4expr_any (F : List Fn) (vf : Value) (vp vb : Nat → Value) (k : Nat) (l : List Ex) (v : Value) (w0 : World) (hx : R4Ctx w0 F vf vp vb k) (h : ExsIn w0 l v) : R4ExprOk w0 F vf k l v := by
  induction h with
  | mk l v vs h each ih =>
  intro x hxa W c bs vw kv K n loops C hB hcb hK hKl
  obtain ⟨a, cap, rfl, hncap, hcap⟩ := h.form
  obtain ⟨m, hm⟩ : ∃ m, m = l.length := ⟨_, rfl⟩
  have Hm := Lib.hid hm
  have Hrow : Hid (RowOf w0 (.slice a m cap) l.length 4 (fun b o i => ∀ x, l[i]? = some x → ExAt w0 b o x (vs i))) := by rw [hm]; exact h
  have Hih := Lib.hid (And.intro ih each)
  rw [← hm]
  rw [← hm] at hncap
  have hn62 : m ≤ 9223372036854775807 := by have : maxLen ≤ 9223372036854775807 := by decide
                                            omega
  have Hx := Lib.hid hxa
  have Hctx := Lib.hid hx
  have HB := Lib.hid hB
  have HKl := Lib.hid hKl
  obtain ⟨G, hG⟩ : ∃ G, G = gAt F k := ⟨_, rfl⟩
  rw [← hG]
  have HG := Lib.hid hG
  obtain ⟨N, hN⟩ : ∃ N, N = F.length := ⟨_, rfl⟩
  rw [← hN]
  rw [← hN] at hK
  have HN := Lib.hid hN
  obtain ⟨W1, hW1⟩ : ∃ W1, W1 = W.alloc (.cells #[.int .i64 x.kind, .int .i64 x.n, .string x.name, .slice a m cap] 35) := ⟨_, rfl⟩
  have hb1 : Below W.heap.size W W1 := by rw [hW1]; exact (Below.refl _ _).alloc (Nat.le_refl _) _
  have he1 : ExAt W1 W.heap.size 0 x (.slice a m cap) := by rw [hW1]; constructor <;> exact World.cell?_alloc_at _ _ _ _ rfl
  have hk1 := hK.later hb1
  have q1 : W.heap.size < W1.heap.size := block_lt_of_cell he1.c0
  have ql := hK.lt
  have qc := hK.in
  have HnotD : Hid (¬ WT c bs bs kv W.heap.size) := not_wt (by omega) (by omega) (by omega) (fun j e => (hK.own j e).2)
  have H1 := Lib.hid (And.intro hb1 (And.intro he1 hk1))
  have HW1 := Lib.hid hW1
  unfold exVal
  clear h ih each hm hx hxa hG hN hb1 he1 hW1 hB hK hk1 hKl
  go_enter Tryz.func125, Tryz.ntmps125
  go_upto_region 1 with (fail)
  rw [← HW1.out]
  obtain ⟨i0, i1, i2, i3⟩ := H1.out.2.1
  simp only [Nat.zero_add] at i1 i2 i3
  clear i1
  go_upto_block 0 with (fail)
  go_cut [1, 6] (fun _ _ wc => ∃ C1, RAt wc c bs vw vf kv K (k : Int) n loops (x.nown K G) N C1 ∧ WStep W1 wc c bs bs kv kv ∧ (x.nown K G = 0 → ∀ z, z ∈ C1 ↔ z ∈ C ∨ (x.kind = 4 ∧ idxs G [x.name] z)))
  case first =>
    clear i3
    by_cases h2 : x.kind = 2
    · have Hown : Hid (x.nown K G = needE K x.name false) := by show _ = _; unfold Ex.nown; rw [if_pos h2]
      have hq : (x.kind == 2) = true := by simp [h2]
      have Hn4 : Hid (x.kind ≠ 4) := by show _ ≠ _; omega
      clear h2
      go_wp2_with fail
      refine (ruses_any W1 c bs vw vf kv K (k : Int) n loops 0 N C x.name false H1.out.2.2 HKl.out).mono ?_
      rintro e w2 ⟨rfl, h2, s2⟩
      rw [keepE_zero, ← Hown.out] at h2
      have H2 := Lib.hid (And.intro h2 s2)
      clear h2 s2
      go_wp2_with fail
      go_meet
      case rel => exact ⟨C, H2.out.1, H2.out.2, fun _ z => ⟨.inl, fun h => h.elim id fun h => absurd h.1 Hn4.out⟩⟩
    by_cases h3 : x.kind = 3
    · have Hown : Hid (x.nown K G = needE K x.name true) := by show _ = _; unfold Ex.nown; rw [if_neg h2, if_pos h3]
      have hq : (x.kind == 3) = true := by simp [h3]
      have hq2 : (x.kind == 2) = false := by simp [h2]
      have Hn4 : Hid (x.kind ≠ 4) := by show _ ≠ _; omega
      clear h2 h3
      go_wp2_with fail
      refine (ruses_any W1 c bs vw vf kv K (k : Int) n loops 0 N C x.name true H1.out.2.2 HKl.out).mono ?_
      rintro e w2 ⟨rfl, h2, s2⟩
      rw [keepE_zero, ← Hown.out] at h2
      have H2 := Lib.hid (And.intro h2 s2)
      clear h2 s2
      go_wp2_with fail
      go_meet
      case rel => exact ⟨C, H2.out.1, H2.out.2, fun _ z => ⟨.inl, fun h => h.elim id fun h => absurd h.1 Hn4.out⟩⟩
    have hq2 : (x.kind == 2) = false := by simp [h2]
    have hq3 : (x.kind == 3) = false := by simp [h3]
    by_cases h4 : x.kind = 4
    · have Hown : Hid (x.nown K G = if x.name ∈ G then 0 else 8) := by
        show _ = _; unfold Ex.nown; rw [if_neg h2, if_neg h3]
        by_cases hg : x.name ∈ G
        · rw [if_pos hg, if_neg (fun h => h.2 hg)]
        · rw [if_neg hg, if_pos ⟨h4, hg⟩]
      have hq : (x.kind == 4) = true := by simp [h4]
      have H4 := Lib.hid h4
      have Hcall := Lib.hid (rcalled_any w0 W1 F vp vb k c bs vw vf kv K n loops C x.name Hctx.out (HB.out.trans (H1.out.1.mono HB.out.size)) (by rw [← HN.out]; exact H1.out.2.2))
      clear h2 h3 h4
      go_wp2_with fail
      refine Hcall.out.mono ?_
      rintro e w2 ⟨rfl, C2, h2, s2, hC2⟩
      rw [← HG.out] at h2 hC2
      rw [← HN.out] at h2
      rw [← Hown.out] at h2
      have H2 := Lib.hid (And.intro h2 (And.intro s2 hC2))
      clear h2 s2 hC2 Hcall
      go_wp2_with fail
      go_meet
      case rel =>
        refine ⟨C2, H2.out.1, H2.out.2.1, fun h z => ?_⟩
        have hg : x.name ∈ G := by
          rw [Hown.out] at h
          by_cases hg : x.name ∈ G
          · exact hg
          · rw [if_neg hg] at h; cases h
        rw [H2.out.2.2 hg z]
        exact or_congr Iff.rfl ⟨fun h => ⟨H4.out, h⟩, fun h => h.2⟩
    · have Hown : Hid (x.nown K G = 0) := by show _ = _; unfold Ex.nown; rw [if_neg h2, if_neg h3, if_neg (fun h => h4 h.1)]
      have hq : (x.kind == 4) = false := by simp [h4]
      have H4 := Lib.hid h4
      clear h2 h3 h4
      go_wp2_with fail
      go_meet
      case rel => exact ⟨C, by rw [Hown.out]; exact H1.out.2.2, .refl _ _ _ _ _, fun _ z => ⟨.inl, fun h => h.elim id fun h => absurd h.1 H4.out⟩⟩
  case rest =>
    obtain ⟨C1, hK1, hs1, hC1⟩ := hcut
    obtain ⟨V, hV⟩ : ∃ V : World, V = wc := ⟨_, rfl⟩
    subst hV
    have heV := H1.out.2.1.oth hs1.oth q1 HnotD.out
    have HK1 := Lib.hid (And.intro hK1 (And.intro hs1 hC1))
    have HeV := Lib.hid heV
    clear i0 i2 i3 hK1 hs1 hC1 heV
    obtain ⟨e0, he0⟩ : ∃ e, e = x.nown K G := ⟨_, rfl⟩
    have He0 := Lib.hid he0
    clear he0
    go_wp2_with fail
    go_loopg [4] m (fun g iv wx => ∃ (i : Nat) (e : Int) (Ci : List Int), g = m - i ∧ iv = .int .i64 (i : Int) ∧ i ≤ m ∧ RAt wx c bs vw vf kv K (k : Int) n loops e N Ci ∧ WStep W1 wx c bs bs kv kv ∧
      ((e = 0 ∧ x.nown K G = 0 ∧ (∀ j y, j < i → l[j]? = some y → y.nerr K G = 0) ∧ ∀ z, z ∈ Ci ↔ z ∈ C1 ∨ idxs G (Ex.ncallss (l.take i)) z) ∨ (e ≠ 0 ∧ x.nerr K G = e)))
    case atStart =>
      refine ⟨0, e0, C1, rfl, rfl, Nat.zero_le _, by rw [He0.out]; exact HK1.out.1, HK1.out.2.1, ?_⟩
      by_cases h : e0 = 0
      · exact .inl ⟨h, by rw [← He0.out]; exact h, fun j y h => by omega, fun z => by simp [Ex.ncallss, idxs]⟩
      · exact .inr ⟨h, by rw [Ex.nerr_eq, ← He0.out, if_pos h]⟩
    case round =>
      obtain ⟨i, e, Ci, hg, rfl, hi, hK, hs, hp⟩ := hrel
      have Hg := Lib.hid hg
      have HKi := Lib.hid (And.intro hK (And.intro hs hp))
      have HBr : Hid (Below w0.heap.size w0 wr) := hs.below4 H1.out.2.2 (HB.out.trans (H1.out.1.mono HB.out.size)) hcb
      obtain ⟨i0, i1, i2, i3⟩ := H1.out.2.1.oth hs.oth q1 HnotD.out
      simp only [Nat.zero_add] at i3
      have c6 := hK.c6
      have qr := hs.oth.size
      clear hg hK hs hp i0 i1 i2
      by_cases hin : i < m
      · by_cases hez : e = 0
        · subst hez
          obtain ⟨p1, p2, p3⟩ : x.nown K G = 0 ∧ (∀ j y, j < i → l[j]? = some y → y.nerr K G = 0) ∧ ∀ z, z ∈ Ci ↔ z ∈ C1 ∨ idxs G (Ex.ncallss (l.take i)) z := by
            rcases HKi.out.2.2 with h | h
            · exact h.2
            · exact absurd rfl h.1
          have Hp := Lib.hid (And.intro p1 (And.intro p2 p3))
          clear p1 p2 p3
          obtain ⟨y, hy⟩ : ∃ y, l[i]? = some y := ⟨_, List.getElem?_eq_getElem (by rw [← Hm.out]; exact hin)⟩
          obtain ⟨b, off, rfl, hb, hP⟩ := Hrow.out.at (i := i) (by rw [← Hm.out]; exact hin)
          have hey := (hP y hy).later HBr.out hb
          have ihy := Hih.out.1 i y hy y rfl
          obtain ⟨a', cap', hvs, -⟩ := (Hih.out.2 i y hy).form
          obtain ⟨m', hm'⟩ : ∃ m', m' = y.args.length := ⟨_, rfl⟩
          rw [hvs, ← hm'] at hey ihy
          have Hcall := Lib.hid (ihy wr c bs vw kv K n loops Ci HBr.out hcb (by rw [← HN.out]; exact HKi.out.1) HKl.out)
          have Hy := Lib.hid hy
          obtain ⟨j0, j1, j2, j3⟩ := hey
          clear hP hy ihy hvs hm'
          go_wp2_with fail
          refine Hcall.out.mono ?_
          rintro E w5 ⟨rfl, C5, hK5, hs5, hC5⟩
          rw [← HG.out] at hK5 hC5
          rw [← HN.out] at hK5
          obtain ⟨e5, he5⟩ : ∃ e5, e5 = y.nerr K G := ⟨_, rfl⟩
          rw [← he5] at hK5 hC5
          have He5 := Lib.hid he5
          have H5 := Lib.hid (And.intro hK5 (And.intro (HKi.out.2.1.trans hs5) hC5))
          clear hK5 hs5 hC5 he5 j0 j1 j2 j3 i3 c6 Hcall
          go_wp2_with fail
          go_roundg (m - (i + 1))
          case measure => have := Hg.out; omega
          case rel =>
            refine ⟨i + 1, e5, C5, rfl, by go_num, hin, H5.out.1, H5.out.2.1, ?_⟩
            by_cases hz : e5 = 0
            · refine .inl ⟨hz, Hp.out.1, ?_, ?_⟩
              · intro j z hj hz2
                by_cases e : j = i
                · subst e
                  rw [Hy.out] at hz2
                  cases hz2; rw [← He5.out]; exact hz
                · exact Hp.out.2.1 j z (by omega) hz2
              · intro z
                rw [H5.out.2.2 hz z, Hp.out.2.2 z, Ex.ncallss_take Hy.out, idxs_append, or_assoc]
            · refine .inr ⟨hz, ?_⟩
              rw [Ex.nerr_eq, if_neg (by rw [Hp.out.1]; decide), Hx.out, Ex.nerrs_stop Hy.out Hp.out.2.1 (by rw [← He5.out]; exact hz), He5.out]
        · have Hres : Hid (x.nerr K G = e) := by
            rcases HKi.out.2.2 with h | h
            · exact absurd h.1 hez
            · exact h.2
          have hq : (e == 0) = false := by simp [hez]
          have Hez := Lib.hid hez
          clear hez
          go_wp2_with fail
          refine bodyPost_end (results_none rfl _ _ _) rfl ?_
          exact ⟨rfl, Ci, by rw [Hres.out]; exact HKi.out.1, (WStep.of_below H1.out.1).trans HKi.out.2.1, fun h => absurd (by rw [← Hres.out]; exact h) Hez.out⟩
      · obtain rfl : m = i := by omega
        have ht : l.take m = l := List.take_of_length_le (by rw [← Hm.out]; exact Nat.le_refl _)
        have Hres : Hid (x.nerr K G = e ∧ (x.nerr K G = 0 → ∀ z, z ∈ Ci ↔ z ∈ C ∨ idxs G x.ncalls z)) := by
          rcases HKi.out.2.2 with h | h
          · have hr : x.nerr K G = 0 := by rw [Ex.nerr_eq, if_neg (by rw [h.2.1]; decide), Hx.out]; exact Ex.nerrs_none fun j y hy => h.2.2.1 j y (by rw [Hm.out]; exact (List.getElem?_eq_some_iff.1 hy).1) hy
            refine ⟨by rw [hr, h.1], fun _ z => ?_⟩
            rw [h.2.2.2 z, HK1.out.2.2 h.2.1 z, Ex.ncalls_eq, idxs_append, Hx.out, ht, or_assoc]
            refine or_congr Iff.rfl (or_congr ?_ Iff.rfl)
            by_cases h4 : x.kind = 4
            · rw [if_pos h4]; simp [h4]
            · rw [if_neg h4]; simp [h4, idxs]
          · exact ⟨h.2, fun h0 => absurd (by rw [← h.2]; exact h0) h.1⟩
        clear hin
        go_wp2_with fail
        refine bodyPost_end (results_none rfl _ _ _) rfl ?_
        exact ⟨rfl, Ci, by rw [Hres.out.1]; exact HKi.out.1, (WStep.of_below H1.out.1).trans HKi.out.2.1, Hres.out.2⟩
end Go.Proofs.YtgcplcffejbniaaGreat
