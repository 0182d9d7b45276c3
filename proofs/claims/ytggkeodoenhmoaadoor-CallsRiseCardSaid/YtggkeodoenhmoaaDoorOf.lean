/- calls.Of: the functions that a function calls, rising. -/
import Derived.Test.YtggkeodoenhmoaaDoorCalled
import Derived.Test.YtggkeodoenhmoaaDoorSets
namespace Go.Proofs.YtggkeodoenhmoaaDoor
open Go.RowKit

/-- Which functions a function calls. -/
noncomputable def targL (code : List Ins) (n : Nat) : List Int := (callsL code n).map (·.2)
noncomputable def ofL (code : List Ins) (n : Nat) : List Int := ((List.range n).map Int.ofNat).filter fun x => decide (x ∈ targL code n)
theorem callsTo_range {code : List Ins} {can : List Bool} {n k : Nat} {p : Pr} (h : p ∈ callsTo code can n k) : 0 ≤ p.1 ∧ p.1 < k ∧ 0 ≤ p.2 ∧ p.2 < n := by
  induction k with
  | zero => simp [callsTo] at h
  | succ k ih =>
    rw [callsTo, List.mem_append] at h
    rcases h with h | h
    · have := ih h; omega
    · split at h
      · rename_i hc
        obtain ⟨_, hc⟩ := hc
        simp [isCall] at hc h
        subst h
        simp; omega
      · simp at h
theorem ofL_mem {code : List Ins} {n : Nat} {x : Int} : x ∈ ofL code n ↔ x ∈ targL code n := by
  unfold ofL
  rw [List.mem_filter]
  constructor
  · intro h; simpa using h.2
  · intro h
    refine ⟨?_, by simpa using h⟩
    unfold targL at h
    obtain ⟨p, hp, rfl⟩ := List.mem_map.1 h
    have := callsTo_range hp
    rw [List.mem_map]
    exact ⟨p.2.toNat, List.mem_range.2 (by omega), by simp; omega⟩
theorem rangeI_sorted (n : Nat) : ((List.range n).map Int.ofNat).Pairwise (· < ·) := by
  rw [List.pairwise_map]
  exact List.pairwise_lt_range.imp (fun {a b} h => by simp; omega)
theorem ofL_sorted (code : List Ins) (n : Nat) : (ofL code n).Pairwise (· < ·) := (rangeI_sorted n).filter _
theorem ofL_range {code : List Ins} {n : Nat} {x : Int} (h : x ∈ ofL code n) : 0 ≤ x ∧ x < n := by
  unfold ofL at h
  obtain ⟨h, _⟩ := List.mem_filter.1 h
  obtain ⟨y, hy, rfl⟩ := List.mem_map.1 h
  have := List.mem_range.1 hy
  simp; omega
theorem callsL_len (code : List Ins) (n : Nat) : (callsL code n).length ≤ 1024 := Nat.le_trans (callsTo_len _ _ _ _) reachL_small

/-- A list with each target once. -/
structure Seen (C : List Pr) (k : Nat) (S l : List Int) : Prop where
  same : ∀ x, x ∈ S ↔ x ∈ l
  nodup : l.Nodup
  mem : ∀ x, x ∈ l ↔ ∃ p ∈ C.take k, p.2 = x
  len : l.length ≤ k
theorem Seen.start (C : List Pr) : Seen C 0 [] [] := ⟨fun _ => Iff.rfl, List.nodup_nil, fun x => by simp, Nat.le_refl _⟩
theorem take_snoc {α : Type} {l : List α} {k : Nat} {x : α} (h : l[k]? = some x) : l.take (k + 1) = l.take k ++ [x] := by
  obtain ⟨hk, e⟩ := List.getElem?_eq_some_iff.1 h
  rw [List.take_succ_eq_append_getElem hk, e]
theorem Seen.skip {C : List Pr} {k : Nat} {S l : List Int} {p : Pr} (h : Seen C k S l) (hp : C[k]? = some p) (hs : p.2 ∈ S) : Seen C (k + 1) S l := by
  refine ⟨h.same, h.nodup, fun x => ?_, by have := h.len; omega⟩
  rw [take_snoc hp, h.mem]
  constructor
  · rintro ⟨q, hq, e⟩; exact ⟨q, by simp [hq], e⟩
  · rintro ⟨q, hq, e⟩
    rcases List.mem_append.1 hq with hq | hq
    · exact ⟨q, hq, e⟩
    · simp at hq; subst hq
      have := (h.mem _).1 ((h.same _).1 hs)
      rw [← e]; exact this
theorem Seen.add {C : List Pr} {k : Nat} {S l : List Int} {p : Pr} (h : Seen C k S l) (hp : C[k]? = some p) (hs : ¬ p.2 ∈ S) : Seen C (k + 1) (insL S p.2) (l ++ [p.2]) := by
  refine ⟨fun x => ?_, ?_, fun x => ?_, by have := h.len; simp; omega⟩
  · rw [insL_mem, h.same]; simp [or_comm]
  · rw [List.nodup_append]
    refine ⟨h.nodup, by simp, ?_⟩
    intro a ha b hb e
    simp at hb
    subst hb; subst e
    exact hs ((h.same _).2 ha)
  · rw [take_snoc hp, List.mem_append, h.mem]
    constructor
    · rintro (⟨q, hq, e⟩ | hx)
      · exact ⟨q, by simp [hq], e⟩
      · simp at hx; exact ⟨p, by simp, hx.symm⟩
    · rintro ⟨q, hq, e⟩
      rcases List.mem_append.1 hq with hq | hq
      · exact .inl ⟨q, hq, e⟩
      · simp at hq; subst hq; exact .inr (by simp [e])
theorem Seen.done {code : List Ins} {n k : Nat} {S l : List Int} (h : Seen (callsL code n) k S l) (hk : (callsL code n).length ≤ k) : sortL l = ofL code n := by
  refine sorted_ext _ _ (sortL_sorted l h.nodup) (ofL_sorted code n) (fun x => ?_)
  rw [sortL_mem, h.mem, ofL_mem, List.take_of_length_le hk]
  unfold targL
  rw [List.mem_map]

theorem nodup_sub : ∀ (S l : List Int), S.Nodup → (∀ x ∈ S, x ∈ l) → S.length ≤ l.length
  | [], _, _, _ => Nat.zero_le _
  | x :: S, l, h, hs => by
    obtain ⟨h1, h2⟩ := List.nodup_cons.1 h
    have hx := hs x (by simp)
    have := nodup_sub S (l.erase x) h2 (fun y hy => (List.mem_erase_of_ne (by intro e; subst e; exact h1 hy)).2 (hs y (by simp [hy])))
    rw [List.length_erase_of_mem hx] at this
    have := List.length_pos_of_mem hx
    simp; omega
theorem nodup_len {S l : List Int} (h1 : S.Nodup) (h : ∀ x, x ∈ S ↔ x ∈ l) : S.length ≤ l.length := nodup_sub S l h1 (fun x hx => (h x).1 hx)
theorem hS_len {C : List Pr} {k b : Nat} {S l : List Int} {w : World} (h : Seen C k S l) (hS : SetAt w b S) : S.length ≤ k := Nat.le_trans (nodup_len hS.nodup h.same) h.len
theorem pr_form {t : TypeId} {w : World} {B : Nat} {v : Value} {l : List Pr} (h : OwnPr t w B v l) : ∃ a c, v = .slice a l.length c ∧ (0 < l.length → ∃ g, a = some ⟨g, 0, none⟩ ∧ B ≤ g ∧ g < w.heap.size) := by
  rcases h.2 with ⟨rfl, h0⟩ | ⟨g, cap, cur, rfl, hg, hh, _⟩
  · exact ⟨none, 0, by rw [h0], fun h => by omega⟩
  · exact ⟨_, _, rfl, fun _ => ⟨g, rfl, hg, (Array.getElem?_eq_some_iff.1 hh).1⟩⟩

noncomputable def ofFn (F : List FR) (fn : Int) : List Int := if 0 ≤ fn then match F[fn.toNat]? with | some x => ofL x.code F.length | none => [] else []
theorem ofFn_at {F : List FR} {fn : Nat} {x : FR} (h : F[fn]? = some x) : ofFn F fn = ofL x.code F.length := by simp [ofFn, h]

set_option maxRecDepth 100000 in
set_option maxHeartbeats 2000000 in
theorem of_in (vt vf : Value) (F : List FR) (fn : Nat) (x : FR) (w : World) (hF : FuncsIn w vf F) (hx : F[fn]? = some x) (hw : WordsIn w) :
    Calls Tryd.prog 7 #[modV vt vf, .int .i64 (fn : Int)] w (RetInts (ofL x.code F.length) w) := by
  have hF0 := hF
  obtain ⟨-, af, cf, hvf, -⟩ := hF.row
  subst hvf
  have hfn : fn < F.length := (List.getElem?_eq_some_iff.1 hx).1
  obtain ⟨nF, hnF⟩ : ∃ nF, nF = F.length := ⟨_, rfl⟩
  have hnf := hF.nFuncs
  rw [← hnF] at hfn hnf ⊢
  obtain ⟨W1, hW1⟩ : ∃ W1, W1 = (w.alloc (.cells #[vt, .slice af nF cf] 25)).alloc (.map #[] 0) := ⟨_, rfl⟩
  have hb1 : Below w.heap.size w W1 := by rw [hW1]; exact ((Below.refl _ _).alloc (Nat.le_refl _) _).alloc (by (try simp only [World.size_alloc]); (try simp only [size_set]); omega) _
  have hs1 : W1.heap.size = w.heap.size + 2 := by rw [hW1]; simp
  have hm1 : SetAt W1 (w.heap.size + 1) [] := by
    rw [hW1]
    have := SetAt.made (w.alloc (.cells #[vt, .slice af nF cf] 25))
    simpa using this
  have hF1 : FuncsIn W1 (.slice af nF cf) F := by rw [hnF]; exact hF0.later hb1
  have H1 := Lib.hid (And.intro hb1 (And.intro hs1 (And.intro hm1 (And.intro hF1 (hw.next hb1)))))
  have HW1 := Lib.hid hW1
  have Hx := Lib.hid hx
  have HnF := Lib.hid hnF
  have hmm := @run_makeMap Tryd.prog
  clear hF hF0 hx hnF hb1 hs1 hm1 hF1 hw hW1
  go_enter Tryd.func7, Tryd.ntmps7
  go_wp2_with fail
  rw [← HW1.out]
  refine (called_any vt _ F fn x _ H1.out.2.2.2.1 Hx.out H1.out.2.2.2.2).mono ?_
  rintro e w2 ⟨v, rfl, hv, hb2⟩
  obtain ⟨hb1, hs1, hm1, hF1, hw1⟩ := H1.out
  rw [← HnF.out] at hv
  obtain ⟨C, hC⟩ : ∃ C, C = callsL x.code nF := ⟨_, rfl⟩
  have hCl : (callsL x.code nF).length ≤ 1024 := callsL_len _ _
  have hCr : ∀ p ∈ C, 0 ≤ p.2 ∧ p.2 < nF := fun p hp => by rw [hC] at hp; have := callsTo_range hp; omega
  have hfin : ∀ (S l : List Int) (k : Nat), Seen C k S l → C.length ≤ k → sortL l = ofL x.code nF := fun S l k h hk => by rw [hC] at h hk; exact h.done hk
  rw [← hC] at hv hCl
  rw [hs1] at hv
  obtain ⟨av, cv, rfl, hav⟩ := pr_form hv
  obtain ⟨n, hn⟩ : ∃ n, n = C.length := ⟨_, rfl⟩
  rw [← hn] at hv hCl hav ⊢
  have H2 : Hid (Below w.heap.size w w2 ∧ w.heap.size + 2 ≤ w2.heap.size ∧ OwnPr 50 w2 (w.heap.size + 2) (.slice av n cv) C ∧ SetAt w2 (w.heap.size + 1) []) :=
    ⟨hb1.trans (hb2.mono (by omega)), by have := hb2.size; omega, hv, hm1.later hb2 (by omega)⟩
  have Hn := Lib.hid hn
  have Hfin := Lib.hid hfin
  have HCr := Lib.hid hCr
  have Hav := Lib.hid hav
  clear hb1 hs1 hm1 hF1 hw1 hv hb2 hn hfin hCr hC hav H1 HW1 Hx
  go_wp2_with fail
  go_loopw [6, 25] (fun v i wr => ∃ (k : Nat) (S l : List Int), k ≤ n ∧ i = .int .i64 k ∧ OwnInts wr w2.heap.size v l ∧ SetAt wr (w.heap.size + 1) S ∧ Seen C k S l ∧ Keep w2.heap.size (w.heap.size + 1) w2 wr) (fun _ i _ => n - (intOf i).toNat)
  case atStart => exact ⟨0, [], [], Nat.zero_le _, rfl, World.ownsRow_nil _ _ _ _, H2.out.2.2.2, Seen.start C, Keep.refl _ _ _⟩
  case round =>
    obtain ⟨k, S, l, hk, rfl, ho, hS, hseen, hkp⟩ := hrel
    by_cases hkn : k < n
    · obtain ⟨g, rfl, hg1, hg2⟩ := Hav.out (by omega)
      obtain ⟨⟨pa, pb⟩, hp⟩ : ∃ p, C[k]? = some p := ⟨C[k]'(by rw [← Hn.out]; exact hkn), List.getElem?_eq_getElem _⟩
      obtain ⟨-, c0, c1⟩ := OwnPr.cell (hkp.row H2.out.2.2.1 (Nat.le_refl _) (by omega)) hp
      simp only at c0 c1
      obtain ⟨hr1, hr2⟩ := HCr.out (pa, pb) (List.mem_of_getElem? hp)
      simp only at hr1 hr2
      have hsz2 : w2.heap.size ≤ wr.heap.size := hkp.size
      have hsz0 : w.heap.size + 2 ≤ w2.heap.size := H2.out.2.1
      have HS : Hid (SetAt (wr.alloc (.cells #[.int .i64 pa, .int .i64 pb] 50)) (w.heap.size + 1) S) := hS.alloc _
      have HS2 : Hid (SetAt ((wr.alloc (.cells #[.int .i64 pa, .int .i64 pb] 50)).alloc (.cells #[] 51)) (w.heap.size + 1) S) := (hS.alloc _).alloc _
      have HO2 : Hid (OwnInts ((wr.alloc (.cells #[.int .i64 pa, .int .i64 pb] 50)).alloc (.cells #[] 51)) w2.heap.size u6 l) := (World.ownsRow.alloc (World.ownsRow.alloc ho _) _)
      have HK2 : Hid (Keep w2.heap.size (w.heap.size + 1) w2 ((wr.alloc (.cells #[.int .i64 pa, .int .i64 pb] 50)).alloc (.cells #[] 51))) := (hkp.alloc hsz2 _).alloc (by simp; omega) _
      have hx1 : (wr.alloc (.cells #[.int .i64 pa, .int .i64 pb] 50)).cell? ⟨wr.heap.size, 1, none⟩ = some (.int .i64 pb) := by rw [World.cell?_alloc_at _ _ _ _ rfl]; rfl
      have Hx1 : Hid (((wr.alloc (.cells #[.int .i64 pa, .int .i64 pb] 50)).alloc (.cells #[] 51)).cell? ⟨wr.heap.size, 1, none⟩ = some (.int .i64 pb)) := by
        show _ = _
        rw [World.cell?_alloc_past _ _ _ (by simp)]; exact hx1
      have Hseen := Lib.hid hseen
      have Hp := Lib.hid hp
      clear ho hS hkp hseen hp hx1
      by_cases hm : pb ∈ S
      · have Hm := Lib.hid hm
        have Hd : Hid (decide (pb ∈ S) = true) := by show _ = _; simp [hm]
        clear hm
        go_wp2_with (at_lookup; refine set_look rfl _ _ rfl (w.heap.size + 1) S rfl HS.out pb rfl (by omega) true Hd.out ?_)
        go_roundw
        case rel => exact ⟨k + 1, S, l, by omega, by go_num, HO2.out, HS2.out, Hseen.out.skip Hp.out Hm.out, HK2.out⟩
        case measure => simp [intOf]; omega
      · have Hm := Lib.hid hm
        have Hd : Hid (decide (pb ∈ S) = false) := by show _ = _; simp [hm]
        have Hl : Hid (S.length ≤ 1000000000000 ∧ l.length ≤ 1000000000000) := by
          have h1 := Hseen.out.len
          have h2 := hS_len Hseen.out HS.out
          exact ⟨by omega, by omega⟩
        clear hm
        go_wp2_with (first | (at_lookup; refine set_look rfl _ _ rfl (w.heap.size + 1) S rfl HS.out pb rfl (by omega) false Hd.out ?_) | (at_mapUpdate; refine set_put rfl _ _ _ rfl (w.heap.size + 1) S rfl HS2.out pb rfl rfl (by omega) Hl.out.1 ?_))
        intro w4 hS4 hg4
        have c4 : w4.cell? ⟨wr.heap.size, 1, none⟩ = some (.int .i64 pb) := (World.cell?_of_block (hg4.block wr.heap.size (by simp; omega) (by intro e; have := Option.some.inj e; omega))).trans Hx1.out
        have hk4 : Keep w2.heap.size (w.heap.size + 1) w2 w4 := HK2.out.grown hg4 (by simp; omega) (fun k e => by cases e; exact .inr rfl)
        have ho4 : OwnInts w4 w2.heap.size u6 l := HO2.out.kept hg4 (by
          cases hb : u6.ownBlock with
          | none => exact .inl rfl
          | some b => exact .inr (by intro e; have := Option.some.inj e; have := (HO2.out.lt _ hb).1; omega))
        have hs4 : w2.heap.size ≤ w4.heap.size := hk4.size
        have H4 := Lib.hid (And.intro hS4 (And.intro hk4 ho4))
        clear hS4 hk4 ho4 hg4
        go_wp2_with (at_builtin; refine append_int rfl _ _ rfl w2.heap.size _ l rfl H4.out.2.2 pb rfl Hl.out.2 hs4 ?_)
        intro v5 w5 ho5 hg5 hf5 hb5
        have h5 : Keep w2.heap.size (w.heap.size + 1) w2 w5 := H4.out.2.1.trans (Keep.of_below (hb5 _ _ (Below.refl _ _) (Nat.le_refl _)))
        have hS5 : SetAt w5 (w.heap.size + 1) (insL S pb) := H4.out.1.later (hb5 _ _ (Below.refl _ _) (Nat.le_refl _)) (by omega)
        have H5 := Lib.hid (And.intro h5 (And.intro hS5 ho5))
        clear h5 hS5 ho5 hg5 hf5 hb5
        go_wp2_with fail
        go_roundw
        case rel => exact ⟨k + 1, insL S pb, l ++ [pb], by omega, by go_num, H5.out.2.2, H5.out.2.1, Hseen.out.add Hp.out Hm.out, H5.out.1⟩
        case measure => simp [intOf]; omega
    · have ek : k = n := by omega
      subst ek
      have hll : l.length ≤ 1000000000000 := by have := hseen.len; omega
      have Hout := Lib.hid (Hfin.out S l k hseen (Nat.le_of_eq Hn.out.symm))
      have Ho := Lib.hid ho
      have Hk := Lib.hid hkp
      have Hll := Lib.hid hll
      clear ho hS hkp hseen hll
      go_wp2_with fail
      refine (sortInts_any _ l w2.heap.size _ Ho.out Hll.out).mono ?_
      rintro e w5 ⟨rfl, ho5, hg5⟩
      have h5 : Below w.heap.size w w5 := by
        have h6 := Hk.out.size
        have h7 := H2.out.2.1
        refine H2.out.1.trans ((Hk.out.below (by omega) (by omega)).grown hg5 (by omega) (fun k e => ?_))
        have := (World.ownsRow.lt Ho.out k e).1
        omega
      have H5 := Lib.hid (And.intro h5 ho5)
      clear h5 ho5 hg5
      go_wp2_with fail
      go_ret
      refine ⟨_, rfl, ?_, H5.out.1⟩
      rw [← Hout.out]
      exact ownsRow_mono H5.out.2 (by have := H2.out.2.1; omega)
end Go.Proofs.YtggkeodoenhmoaaDoor
