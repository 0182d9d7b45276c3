/- R15.Of of the reference: the functions that a function calls, rising. -/
import Derived.Test.YtggkeodoenhmoaaDoorRCalls
namespace Go.Proofs.YtggkeodoenhmoaaDoor
open Go.RowKit

noncomputable def callsFn (F : List FR) (fn : Int) : List Pr := if 0 ≤ fn then match F[fn.toNat]? with | some x => callsL x.code F.length | none => [] else []
theorem callsFn_at {F : List FR} {fn : Nat} {x : FR} (h : F[fn]? = some x) : callsFn F fn = callsL x.code F.length := by simp [callsFn, h]
theorem callsFn_len (F : List FR) (fn : Int) : (callsFn F fn).length ≤ 1024 := by
  unfold callsFn; split
  · split
    · exact callsL_len _ _
    · simp
  · simp
theorem callsFn_range {F : List FR} {fn : Int} {p : Pr} (h : p ∈ callsFn F fn) : 0 ≤ p.2 ∧ p.2 < F.length := by
  unfold callsFn at h; split at h
  · split at h
    · have := callsTo_range h; omega
    · simp at h
  · simp at h
theorem ofFn_mem {F : List FR} {fn : Int} {x : Int} : x ∈ ofFn F fn ↔ ∃ p ∈ callsFn F fn, p.2 = x := by
  unfold ofFn callsFn
  by_cases h : 0 ≤ fn
  · rw [if_pos h, if_pos h]
    cases F[fn.toNat]? with
    | none => simp
    | some y => simp only; rw [ofL_mem]; unfold targL; rw [List.mem_map]
  · rw [if_neg h, if_neg h]; simp
theorem ofFn_sorted (F : List FR) (fn : Int) : (ofFn F fn).Pairwise (· < ·) := by
  unfold ofFn; split
  · split
    · exact ofL_sorted _ _
    · exact List.Pairwise.nil
  · exact List.Pairwise.nil
theorem nodup_of_sorted {l : List Int} (h : l.Pairwise (· < ·)) : l.Nodup := h.imp (fun {a b} h e => by omega)
theorem ofFn_len (F : List FR) (fn : Int) : (ofFn F fn).length ≤ 1024 := by
  have h := nodup_sub (ofFn F fn) ((callsFn F fn).map (·.2)) (nodup_of_sorted (ofFn_sorted F fn)) (fun x hx => by
    obtain ⟨p, hp, e⟩ := ofFn_mem.1 hx
    exact List.mem_map.2 ⟨p, hp, e⟩)
  have := callsFn_len F fn
  simp at h
  omega

theorem rcalls_any (vt vf : Value) (F : List FR) (fn : Int) (w : World) (hF : FuncsIn w vf F) :
    Calls Tryd.prog 17 #[modV vt vf, .int .i64 fn] w fun e w' => ∃ v, e = .returned v ∧ OwnPr 57 w' w.heap.size v (callsFn F fn) ∧ Below w.heap.size w w' := by
  by_cases hin : 0 ≤ fn ∧ fn < (F.length : Int)
  · obtain ⟨k, rfl⟩ := Int.eq_ofNat_of_zero_le hin.1
    have hx : F[k]? = some (F[k]'(by omega)) := List.getElem?_eq_getElem _
    rw [callsFn_at hx]
    exact rcalls_in vt vf F k _ w hF hx
  · have e : callsFn F fn = [] := by
      unfold callsFn; split
      · rename_i h0
        rw [List.getElem?_eq_none (by omega)]
      · rfl
    rw [e]
    exact rcalls_out vt vf F fn w hF (by omega)

/-- The least target above last among the first k calls; -1: there is none. -/
def NextOK (C : List Pr) (last : Int) (k : Nat) (nx : Int) : Prop :=
  (nx = -1 ∧ ∀ p ∈ C.take k, p.2 ≤ last) ∨ (last < nx ∧ (∃ p ∈ C.take k, p.2 = nx) ∧ ∀ p ∈ C.take k, last < p.2 → nx ≤ p.2)
theorem NextOK.start (C : List Pr) (last : Int) : NextOK C last 0 (-1) := .inl ⟨rfl, by simp⟩
theorem NextOK.skip {C : List Pr} {last nx : Int} {k : Nat} {p : Pr} (h : NextOK C last k nx) (hp : C[k]? = some p) (hs : p.2 ≤ last ∨ (last < nx ∧ nx ≤ p.2)) (hl : -1 ≤ last) : NextOK C last (k + 1) nx := by
  unfold NextOK at *
  rw [take_snoc hp]
  rcases h with ⟨h1, h2⟩ | ⟨h1, ⟨q, hq, e⟩, h3⟩
  · left
    refine ⟨h1, fun q hq => ?_⟩
    rcases List.mem_append.1 hq with hq | hq
    · exact h2 q hq
    · simp at hq; subst hq
      rcases hs with hs | ⟨hs1, hs2⟩
      · exact hs
      · have : q.2 ≤ last ∨ last < q.2 := by omega
        omega
  · right
    refine ⟨h1, ⟨q, by simp [hq], e⟩, fun r hr hl => ?_⟩
    rcases List.mem_append.1 hr with hr | hr
    · exact h3 r hr hl
    · simp at hr; subst hr; omega
theorem NextOK.take {C : List Pr} {last nx : Int} {k : Nat} {p : Pr} (h : NextOK C last k nx) (hp : C[k]? = some p) (h1 : last < p.2) (hs : nx < 0 ∨ p.2 < nx) (hl : -1 ≤ last) : NextOK C last (k + 1) p.2 := by
  unfold NextOK at *
  rw [take_snoc hp]
  right
  refine ⟨h1, ⟨p, by simp, rfl⟩, fun q hq hlq => ?_⟩
  rcases List.mem_append.1 hq with hq | hq
  · rcases h with ⟨_, h2⟩ | ⟨h4, _, h3⟩
    · have := h2 q hq; omega
    · have := h3 q hq hlq; omega
  · simp at hq; subst hq; exact Int.le_refl _
theorem NextOK.none {F : List FR} {fn last : Int} {k : Nat} (h : NextOK (callsFn F fn) last k (-1)) (hl : -1 ≤ last) (hk : (callsFn F fn).length ≤ k) : (ofFn F fn).filter (fun x => decide (x ≤ last)) = ofFn F fn := by
  rcases h with ⟨_, h⟩ | ⟨h, _⟩
  · rw [List.take_of_length_le hk] at h
    rw [List.filter_eq_self]
    intro x hx
    obtain ⟨p, hp, rfl⟩ := ofFn_mem.1 hx
    exact decide_eq_true (h p hp)
  · omega
theorem NextOK.some {F : List FR} {fn last nx : Int} {k : Nat} (h : NextOK (callsFn F fn) last k nx) (hn : 0 ≤ nx) (hk : (callsFn F fn).length ≤ k) :
    last < nx ∧ nx ∈ ofFn F fn ∧ (ofFn F fn).filter (fun x => decide (x ≤ nx)) = (ofFn F fn).filter (fun x => decide (x ≤ last)) ++ [nx] := by
  rcases h with ⟨h, _⟩ | ⟨h1, ⟨p, hp, e⟩, h3⟩
  · omega
  · rw [List.take_of_length_le hk] at hp h3
    have hm : nx ∈ ofFn F fn := ofFn_mem.2 ⟨p, hp, e⟩
    refine ⟨h1, hm, sorted_ext _ _ ((ofFn_sorted F fn).filter _) ?_ (fun x => ?_)⟩
    · rw [List.pairwise_append]
      refine ⟨(ofFn_sorted F fn).filter _, by simp, fun a ha b hb => ?_⟩
      have := (List.mem_filter.1 ha).2
      simp at this hb
      omega
    · rw [List.mem_append, List.mem_filter, List.mem_filter]
      simp only [decide_eq_true_eq, List.mem_singleton]
      constructor
      · rintro ⟨hx, hxn⟩
        by_cases hxl : x ≤ last
        · exact .inl ⟨hx, hxl⟩
        · obtain ⟨q, hq, rfl⟩ := ofFn_mem.1 hx
          have := h3 q hq (by omega)
          exact .inr (by omega)
      · rintro (⟨hx, hxl⟩ | rfl)
        · exact ⟨hx, by omega⟩
        · exact ⟨hm, Int.le_refl _⟩
theorem left_less {l : List Int} {a b : Int} (h : a < b) (hm : b ∈ l) : (l.filter fun x => decide (b < x)).length < (l.filter fun x => decide (a < x)).length := by
  induction l with
  | nil => simp at hm
  | cons y l ih =>
    have hle : ∀ l : List Int, (l.filter fun x => decide (b < x)).length ≤ (l.filter fun x => decide (a < x)).length := by
      intro l
      induction l with
      | nil => simp
      | cons z l ih2 =>
        simp only [List.filter_cons]
        by_cases h1 : b < z
        · rw [if_pos (by simpa using h1), if_pos (by simp; omega)]; simp; exact ih2
        · rw [if_neg (by simpa using h1)]
          split
          · simp; omega
          · exact ih2
    simp only [List.filter_cons]
    rcases List.mem_cons.1 hm with e | hm
    · subst e
      rw [if_neg (by simp), if_pos (by simpa using h)]
      have := hle l; simp; omega
    · have := ih hm
      by_cases h1 : b < y
      · rw [if_pos (by simpa using h1), if_pos (by simp; omega)]; simpa using this
      · rw [if_neg (by simpa using h1)]
        split
        · simp; omega
        · exact this

set_option maxRecDepth 100000 in
set_option maxHeartbeats 2000000 in
theorem rof_any (vt vf : Value) (F : List FR) (fn : Int) (w : World) (hF : FuncsIn w vf F) :
    Calls Tryd.prog 8 #[modV vt vf, .int .i64 fn] w (RetInts (ofFn F fn) w) := by
  have hF0 := hF
  obtain ⟨-, af, cf, hvf, -⟩ := hF.row
  subst hvf
  obtain ⟨nF, hnF⟩ : ∃ nF, nF = F.length := ⟨_, rfl⟩
  have hnf := hF.nFuncs
  rw [← hnF] at hnf ⊢
  have hF1 : FuncsIn (w.alloc (.cells #[vt, .slice af nF cf] 25)) (.slice af nF cf) F := by rw [hnF]; exact hF0.later ((Below.refl _ _).alloc (Nat.le_refl _) _)
  have H1 := Lib.hid hF1
  have HnF := Lib.hid hnF
  clear hF hF0 hnF hF1
  go_enter Tryd.func8, Tryd.ntmps8
  go_wp2_with fail
  refine (rcalls_any vt _ F fn _ H1.out).mono ?_
  rintro e w2 ⟨v, rfl, hv, hb2⟩
  obtain ⟨C, hC⟩ : ∃ C, C = callsFn F fn := ⟨_, rfl⟩
  have hCl : (callsFn F fn).length ≤ 1024 := callsFn_len _ _
  have hCr : ∀ p ∈ C, 0 ≤ p.2 ∧ p.2 < nF := fun p hp => by rw [hC] at hp; rw [HnF.out]; exact callsFn_range hp
  have hnone : ∀ (last : Int) (k : Nat), NextOK C last k (-1) → -1 ≤ last → C.length ≤ k → (ofFn F fn).filter (fun x => decide (x ≤ last)) = ofFn F fn := fun last k h hl hk => by rw [hC] at h hk; exact h.none hl hk
  have hsome : ∀ (last nx : Int) (k : Nat), NextOK C last k nx → 0 ≤ nx → C.length ≤ k → last < nx ∧ nx ∈ ofFn F fn ∧ (ofFn F fn).filter (fun x => decide (x ≤ nx)) = (ofFn F fn).filter (fun x => decide (x ≤ last)) ++ [nx] :=
    fun last nx k h hn hk => by rw [hC] at h hk; exact h.some hn hk
  rw [← hC] at hv hCl
  obtain ⟨av, cv, rfl, hav⟩ := pr_form hv
  obtain ⟨n, hn⟩ : ∃ n, n = C.length := ⟨_, rfl⟩
  rw [← hn] at hv hCl hav ⊢
  have hlenO := ofFn_len F fn
  have hrng : ∀ x ∈ ofFn F fn, 0 ≤ x := fun x hx => by
    obtain ⟨p, hp, rfl⟩ := ofFn_mem.1 hx
    exact (callsFn_range hp).1
  obtain ⟨O, hO⟩ : ∃ O, O = ofFn F fn := ⟨_, rfl⟩
  rw [← hO] at hnone hsome hlenO hrng ⊢
  have hst : O.filter (fun x => decide (x ≤ -1)) = [] := by
    rw [List.filter_eq_nil_iff]; intro x hx; have := hrng x hx; simp; omega
  have hbw : Below w.heap.size w w2 := ((Below.refl _ _).alloc (Nat.le_refl _) _).trans (hb2.mono (by simp))
  have hsz : w.heap.size + 1 ≤ w2.heap.size := by have := hb2.size; simp at this; omega
  have H2 : Hid (Below w.heap.size w w2 ∧ OwnPr 57 w2 (w.heap.size + 1) (.slice av n cv) C) := ⟨hbw, by simpa using hv⟩
  have Hn := Lib.hid hn
  have Hnone := Lib.hid hnone
  have Hsome := Lib.hid hsome
  have HCr := Lib.hid hCr
  have Hav := Lib.hid hav
  have HlenO := Lib.hid hlenO
  have Hst := Lib.hid hst
  have HO := Lib.hid hO
  clear hv hb2 hn hnone hsome hCr hav hlenO hrng hst hbw hC hO H1
  go_wp2_with fail
  go_loopw [6, 7] (fun v i wr => ∃ last : Int, -1 ≤ last ∧ last ≤ nF ∧ i = .int .i64 last ∧ OwnInts wr w2.heap.size v (O.filter fun x => decide (x ≤ last)) ∧ Below w2.heap.size w2 wr) (fun _ i _ => (O.filter fun x => decide (intOf i < x)).length)
  case atStart =>
    refine ⟨-1, by omega, by omega, rfl, ?_, (Below.refl _ _).alloc (Nat.le_refl _) _⟩
    rw [Hst.out]
    exact owns_empty w2 _ _ (Nat.le_refl _)
  case round =>
    obtain ⟨last, hl0, hl1, rfl, ho, hb⟩ := hrel
    have Ho := Lib.hid ho
    have Hb := Lib.hid hb
    have hszr := hb.size
    clear ho hb
    go_wp2_with fail
    go_loopw [8, 9] (fun x i wi => ∃ (k : Nat) (nx : Int), k ≤ n ∧ i = .int .i64 k ∧ x = .int .i64 nx ∧ NextOK C last k nx ∧ wi = wr) (fun _ i _ => n - (intOf i).toNat)
    case atStart => exact ⟨0, -1, Nat.zero_le _, rfl, rfl, NextOK.start C last, rfl⟩
    case round =>
      obtain ⟨k, nx, hk, rfl, rfl, hnx, rfl⟩ := hrel
      by_cases hkn : k < n
      · obtain ⟨g, rfl, hg1, hg2⟩ := Hav.out (by omega)
        obtain ⟨⟨pa, pb⟩, hp⟩ : ∃ p, C[k]? = some p := ⟨C[k]'(by rw [← Hn.out]; exact hkn), List.getElem?_eq_getElem _⟩
        obtain ⟨-, c0, c1⟩ := OwnPr.cell (ownsRow_below H2.out.2 Hb.out (Nat.le_refl _)) hp
        simp only at c0 c1
        obtain ⟨hr1, hr2⟩ := HCr.out (pa, pb) (List.mem_of_getElem? hp)
        simp only at hr1 hr2
        have hA : (pb ≤ last ∧ ¬ last < pb) ∨ (last < pb ∧ nx < 0) ∨ (last < pb ∧ ¬ nx < 0 ∧ pb < nx) ∨ (last < pb ∧ ¬ nx < 0 ∧ ¬ pb < nx) := by omega
        have Hskip : Hid ((pb ≤ last ∨ (last < nx ∧ nx ≤ pb)) → NextOK C last (k + 1) nx) := fun h => hnx.skip hp h hl0
        have Htake : Hid (last < pb → (nx < 0 ∨ pb < nx) → NextOK C last (k + 1) pb) := fun h h2 => hnx.take hp h h2 hl0
        have Hlt : Hid (nx = -1 ∨ last < nx) := Or.imp (fun h => h.1) (fun h => h.1) hnx
        clear hnx hp c0 hg1 hg2
        rcases hA with ⟨h1, h2⟩ | ⟨h1, h2⟩ | ⟨h1, h2, h3⟩ | ⟨h1, h2, h3⟩
        · go_wp2_with fail
          go_roundw
          case rel => exact ⟨k + 1, nx, by omega, by go_num, rfl, Hskip.out (.inl h1), trivial⟩
          case measure => simp [intOf]; omega
        · go_wp2_with fail
          go_roundw
          case rel => exact ⟨k + 1, pb, by omega, by go_num, rfl, Htake.out h1 (.inl h2), trivial⟩
          case measure => simp [intOf]; omega
        · go_wp2_with fail
          go_roundw
          case rel => exact ⟨k + 1, pb, by omega, by go_num, rfl, Htake.out h1 (.inr h3), trivial⟩
          case measure => simp [intOf]; omega
        · go_wp2_with fail
          go_roundw
          case rel => exact ⟨k + 1, nx, by omega, by go_num, rfl, Hskip.out (.inr ⟨by rcases Hlt.out with h | h <;> omega, by omega⟩), trivial⟩
          case measure => simp [intOf]; omega
      · have ek : k = n := by omega
        subst ek
        have hA : nx = -1 ∨ 0 ≤ nx := by rcases hnx with ⟨h, _⟩ | ⟨h, _⟩ <;> omega
        rcases hA with rfl | h0
        · have Hfin := Lib.hid (Hnone.out last k hnx hl0 (Nat.le_of_eq Hn.out.symm))
          clear hnx
          go_wp2_with fail
          go_ret
          refine ⟨_, rfl, ?_, H2.out.1.trans (Hb.out.mono (by omega))⟩
          rw [← HO.out, ← Hfin.out]
          exact ownsRow_mono Ho.out (by omega)
        · obtain ⟨h1, h2, h3⟩ := Hsome.out last nx k hnx h0 (Nat.le_of_eq Hn.out.symm)
          have hnb : nx < nF := by
            rcases hnx with ⟨h, _⟩ | ⟨_, ⟨p, hp, e⟩, _⟩
            · omega
            · have := (HCr.out p (List.mem_of_mem_take hp)).2; omega
          have Hm := Lib.hid (left_less h1 h2)
          have H3 := Lib.hid h3
          have hn0 : ¬ nx < 0 := by omega
          have Hll : Hid ((O.filter fun x => decide (x ≤ last)).length ≤ 1000000000000) := Nat.le_trans (List.length_filter_le _ _) (by have := HlenO.out; omega)
          clear hnx h2 h3
          go_wp2_with (at_builtin; refine append_int rfl _ _ rfl w2.heap.size _ (O.filter fun x => decide (x ≤ last)) rfl Ho.out nx rfl Hll.out hszr ?_)
          intro v5 w5 ho5 hg5 hf5 hb5
          have h5 := hb5 _ _ Hb.out (Nat.le_refl _)
          have H5 := Lib.hid (And.intro h5 ho5)
          clear h5 ho5 hg5 hf5 hb5
          go_wp2_with fail
          go_roundw
          case rel => exact ⟨nx, by omega, by omega, rfl, by rw [H3.out]; exact H5.out.2, H5.out.1⟩
          case measure => exact Hm.out
end Go.Proofs.YtggkeodoenhmoaaDoor
