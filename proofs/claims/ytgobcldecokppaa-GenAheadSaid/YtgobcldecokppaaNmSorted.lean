/- names: the numbers of the functions that are called, rising; what is told to Calls. -/
import Derived.Test.YtgobcldecokppaaNmCheck
import Derived.Test.YtgobcldecokppaaShelf
namespace Go.Proofs.Ytgobcldecokppaa
open Go.RowKit Go.Maps Go.Sort Go.Shelf

def srtI (l : List Int) : List Int := l.mergeSort fun x y => decide (x ≤ y)
theorem srtI_mem (l : List Int) (x : Int) : x ∈ srtI l ↔ x ∈ l := by unfold srtI; exact (List.mergeSort_perm l _).mem_iff
theorem srtI_sorted (l : List Int) (h : l.Nodup) : (srtI l).Pairwise (· < ·) := by
  have h1 : (srtI l).Pairwise (fun x y => decide (x ≤ y) = true) := List.pairwise_mergeSort (fun a b c h1 h2 => by simp at *; omega) (fun a b => by simp; omega) l
  have h2 : (srtI l).Nodup := (List.mergeSort_perm l _).nodup_iff.2 h
  have h3 := List.Pairwise.and h1 h2
  exact h3.imp (fun {a b} h => by have := of_decide_eq_true h.1; have := h.2; omega)
theorem rise_ext : ∀ (a b : List Int), a.Pairwise (· < ·) → b.Pairwise (· < ·) → (∀ x, x ∈ a ↔ x ∈ b) → a = b
  | [], [], _, _, _ => rfl
  | [], y :: b, _, _, h => absurd ((h y).2 (by simp)) (by simp)
  | x :: a, [], _, _, h => absurd ((h x).1 (by simp)) (by simp)
  | x :: a, y :: b, ha, hb, h => by
    obtain ⟨ha1, ha2⟩ := List.pairwise_cons.1 ha
    obtain ⟨hb1, hb2⟩ := List.pairwise_cons.1 hb
    have e : x = y := by
      rcases List.mem_cons.1 ((h x).1 (by simp)) with e | hx
      · exact e
      · rcases List.mem_cons.1 ((h y).2 (by simp)) with e | hy
        · exact e.symm
        · have := hb1 x hx; have := ha1 y hy; omega
    subst e
    rw [rise_ext a b ha2 hb2 (fun z => ?_)]
    have hz := h z
    constructor
    · intro hm
      rcases List.mem_cons.1 (hz.1 (by simp [hm])) with e | h2
      · have := ha1 z hm; omega
      · exact h2
    · intro hm
      rcases List.mem_cons.1 (hz.2 (by simp [hm])) with e | h2
      · have := hb1 z hm; omega
      · exact h2
def RetI (l : List Int) (w : World) (e : Ending) (w' : World) : Prop := ∃ v, e = .returned v ∧ OwnInts w' w.heap.size v l ∧ Below w.heap.size w w'
theorem nkeys_any (mb : Option Nat) (W : World) : Calls Try.prog 42 #[.map mb] W fun e w' => e = .returned (.func (.func 59) #[] #[.pointer (some ⟨W.heap.size, 0, none⟩)]) ∧ w' = W.alloc (.cells #[.map mb] 82) :=
  (callsIn_wide (n := 5)).1 (AnyZI.keys_in Try.keysA Fence.wide 5 trivial rfl mb W)
theorem nsorts (m : Nat) : AnyZI.SortsIn Try.prog Try.sortedA_ren Fence.wide m :=
  ⟨fun blk off cap ss W hH hblk hsz => callsIn_wide.2 (Try.slices_Sort_int blk off cap ss W hH hblk hsz), fun p cap W => callsIn_wide.2 (Try.slices_Sort_int_none p cap W)⟩
theorem nsorted_any (W : World) (b Bm : Nat) (S : List Int) (h : CMap W b S) (hl : S.length ≤ 1000000) (hc : W.cell? ⟨Bm, 0, none⟩ = some (.map (some b))) :
    Calls Try.prog 41 #[.func (.func 59) #[] #[.pointer (some ⟨Bm, 0, none⟩)]] W (RetI (srtI S) W) := by
  obtain ⟨D, F, hown, hn, hs, hh, hF⟩ := h
  have hseq : SeqGives Fence.wide 2 Try.prog 59 #[.pointer (some ⟨Bm, 0, none⟩)] encZ (fun ss => ss.Perm (intKeys D)) (Maps.size D) W :=
    AnyZI.keys_gives (ρ := Try.keysA_ren) { Try.keysA with } Fence.wide _ trivial rfl (by omega) Bm b S.length D _ (block_lt_of_cell hc) hc hown
  have cS := AnyZI.sorted_in Try.sortedA Fence.wide 5 trivial trivial trivial trivial rfl (by omega) (nsorts _) (enters_of Try.func58 (by kernel_rfl) rfl) 59 #[.pointer (some ⟨Bm, 0, none⟩)] trivial (enters_of Try.func59 (by kernel_rfl) rfl) _ _ (by rw [hs]; unfold maxLen; omega) (by rw [hs]; omega) _ hseq
  change CallsIn _ _ Try.prog 41 _ _ _ at cS
  refine ((callsIn_wide (n := 5)).1 cS).mono ?_
  rintro e w' ⟨v, ss, rfl, hS, hrow, hnil, hb⟩
  have hp : S.Perm (intKeys D) := CollectedI.perm (D0 := D) (left := fun _ => false) (ss := S) ⟨hn, fun x => by
    rw [hh]
    simp only [and_true]
    constructor
    · intro hx; exact ⟨x, hx, rfl⟩
    · rintro ⟨y, hy, e⟩; cases e; exact hy⟩ hown Try.intKey Try.underlying3 (fun _ => rfl)
  have e : ss.mergeSort (fun x y => decide (x ≤ y)) = srtI S := mergeSort_of_perm_i (hS.trans hp.symm)
  refine ⟨v, rfl, ?_, hb⟩
  rw [e] at hrow
  have hlen : (srtI S).length = ss.length := by rw [← e]; simp
  unfold OwnInts intVs
  rw [hlen]
  exact hrow
theorem OwnInts.oth {S : Nat → Prop} {w w' : World} {B : Nat} {v : Value} {l : List Int} (h : OwnInts w B v l) (hO : Oth S w w') (hS : ∀ k, v.ownBlock = some k → ¬ S k) : OwnInts w' B v l := by
  refine ⟨h.1, ?_⟩
  rcases h.2 with h2 | ⟨g, vcap, cur, rfl, hg, hgh, r⟩
  · exact .inl h2
  · refine .inr ⟨g, vcap, cur, rfl, hg, ?_, r⟩
    rw [hO.block g (Array.getElem?_eq_some_iff.1 hgh).1 (hS g rfl)]
    exact hgh
set_option maxRecDepth 100000 in
theorem ncalls_told_any (i fn : Int) (bc bF bL : Nat) (C : List Int) (v0 : Value) (V : World) (hF : V.cell? ⟨bF, 0, none⟩ = some (.int .i64 fn)) (hL : V.cell? ⟨bL, 0, none⟩ = some v0) (hfL : V.frozen? ⟨bL, 0, none⟩ = false) (hC : CMap V bc C) (hl : C.length ≤ 1000000) :
    Calls Try.prog 40 #[.int .i64 i, .map (some bc), ptrV bF, ptrV bL] V (fun e V' => e = .returned (.tuple #[]) ∧ (i ≠ fn → V' = V) ∧ (i = fn → ∃ w v, Below V.heap.size V w ∧ OwnInts w V.heap.size v (srtI C) ∧ V' = w.setCell ⟨bL, 0, none⟩ v)) := by
  have HC := Lib.hid hC
  have qL := block_lt_of_cell hL
  have qC := hC.lt
  clear hC
  by_cases h : i = fn
  · have hq : (i == fn) = true := by simp [h]
    have H := Lib.hid h
    clear h
    go_enter Try.func40, Try.ntmps40
    go_wp2_with fail
    refine (nkeys_any (some bc) V).mono ?_
    rintro e w2 ⟨rfl, hw2⟩
    have hb2 : Below V.heap.size V w2 := by rw [hw2]; exact (Below.refl _ _).alloc (Nat.le_refl _) _
    have hc2 : w2.cell? ⟨V.heap.size, 0, none⟩ = some (.map (some bc)) := by rw [hw2]; exact World.cell?_alloc_at _ _ _ _ rfl
    have HC2 := Lib.hid (HC.out.later hb2 qC)
    have H2 := Lib.hid (And.intro hb2 hc2)
    clear hw2 hb2 hc2
    go_wp2_with fail
    refine (nsorted_any w2 bc V.heap.size C HC2.out hl H2.out.2).mono ?_
    rintro e w3 ⟨v, rfl, hv, hb3⟩
    have hb13 : Below V.heap.size V w3 := H2.out.1.trans (hb3.mono H2.out.1.size)
    have hL3 := (hb13.cell (p := ⟨bL, 0, none⟩) qL).trans hL
    have hf3 := (hb13.frozen (p := ⟨bL, 0, none⟩) qL).trans hfL
    have H3 := Lib.hid (And.intro hb13 (ownsRow_base_a hv H2.out.1.size))
    obtain ⟨_, av, cv, hve, -⟩ := SliceIn.of_owns hv
    subst hve
    clear hv hb3 hb13 hL hfL hF
    go_wp2_with fail
    refine bodyPost_end (results_none rfl _ _ _) rfl ?_
    exact ⟨rfl, fun h => absurd H.out h, fun _ => ⟨w3, _, H3.out.1, H3.out.2, rfl⟩⟩
  · have hq : (i == fn) = false := by simp [h]
    have H := Lib.hid h
    clear h
    go_enter Try.func40, Try.ntmps40
    go_wp2_with fail
    refine bodyPost_end (results_none rfl _ _ _) rfl ?_
    exact ⟨rfl, fun _ => rfl, fun h => absurd h H.out⟩
/-- The numbers of the functions of G whose names stand in l, rising. -/
def callsN (G l : List ByteArray) : List Int := ((List.range G.length).filter fun j => match G[j]? with | some s => decide (s ∈ l) | none => false).map fun (j : Nat) => (j : Int)
theorem callsN_mem (G l : List ByteArray) (z : Int) : z ∈ callsN G l ↔ idxs G l z := by
  unfold callsN idxs
  rw [List.mem_map]
  constructor
  · rintro ⟨j, hj, rfl⟩
    obtain ⟨h1, h2⟩ := List.mem_filter.1 hj
    cases hg : G[j]? with
    | none => rw [hg] at h2; cases h2
    | some s => rw [hg] at h2; exact ⟨j, s, rfl, hg, of_decide_eq_true h2⟩
  · rintro ⟨k, s, rfl, h1, h2⟩
    refine ⟨k, List.mem_filter.2 ⟨List.mem_range.2 (List.getElem?_eq_some_iff.1 h1).1, ?_⟩, rfl⟩
    rw [h1]; exact decide_eq_true h2
theorem callsN_sorted (G l : List ByteArray) : (callsN G l).Pairwise (· < ·) := by
  unfold callsN
  rw [List.pairwise_map]
  exact (List.Pairwise.filter _ List.pairwise_lt_range).imp fun h => by omega
theorem srtI_calls {C : List Int} {G l : List ByteArray} (hn : C.Nodup) (h : ∀ z, z ∈ C ↔ idxs G l z) : srtI C = callsN G l :=
  rise_ext _ _ (srtI_sorted C hn) (callsN_sorted G l) fun z => by rw [srtI_mem, h, callsN_mem]
/-- Which functions function fn calls. -/
def Pg.ncalls (p : Pg) (fn : Int) : List Int := if p.nfault.1 ≠ 0 ∨ fn < 0 then [] else match p.funcs[fn.toNat]? with | none => [] | some f => callsN (gAt p.funcs fn.toNat) (St.ncallss f.body)
/-- Where the told function of Calls stands. -/
def NcI (p : Pg) (fn : Int) (bF bL bf i : Nat) (V : World) : Prop :=
  (V.cell? ⟨bF, 0, none⟩ = some (.int .i64 fn) ∧ bL < V.heap.size) ∧ V.frozen? ⟨bL, 0, none⟩ = false ∧ (¬ (0 ≤ fn ∧ fn < (i : Int)) → V.cell? ⟨bL, 0, none⟩ = some (.slice none 0 0)) ∧
    ∀ (k : Nat) f, fn = (k : Int) → k < i → p.funcs[k]? = some f → ∃ v, V.cell? ⟨bL, 0, none⟩ = some v ∧ OwnInts V (bf + 1) v (callsN (gAt p.funcs k) (St.ncallss f.body))
theorem ncalls_told (p : Pg) (fn : Int) (bF bL : Nat) (W : World) (hF : W.cell? ⟨bF, 0, none⟩ = some (.int .i64 fn)) (hL : W.cell? ⟨bL, 0, none⟩ = some (.slice none 0 0)) (hfL : W.frozen? ⟨bL, 0, none⟩ = false) (hne : bF ≠ bL) :
    Told p W 40 #[ptrV bF, ptrV bL] (· = bL) (NcI p fn bF bL) := by
  have qF : bF < W.heap.size := block_lt_of_cell hF
  have qL : bL < W.heap.size := block_lt_of_cell hL
  refine ⟨fun args w => enter_run Try.func40 (by kernel_rfl) (c := _) (by rfl) args w, fun bf V hb hbf => ⟨⟨(hb.cell (p := ⟨bF, 0, none⟩) qF).trans hF, Nat.lt_of_lt_of_le qL hb.size⟩, (hb.frozen (p := ⟨bL, 0, none⟩) qL).trans hfL, fun _ => (hb.cell (p := ⟨bL, 0, none⟩) qL).trans hL, fun k f _ hk => by omega⟩, ?_, ?_⟩
  · rintro bf b i V V' hb1 hb2 ⟨⟨h1, q2⟩, h2, h3, h4⟩ hO
    have q1 : bF < V.heap.size := block_lt_of_cell h1
    have kL : V'.cell? ⟨bL, 0, none⟩ = V.cell? ⟨bL, 0, none⟩ := hO.cell (p := ⟨bL, 0, none⟩) q2 (by show ¬ bL = b; omega)
    refine ⟨⟨(hO.cell (p := ⟨bF, 0, none⟩) q1 (by show ¬ bF = b; omega)).trans h1, Nat.lt_of_lt_of_le q2 hO.size⟩, (hO.frozen (p := ⟨bL, 0, none⟩) q2 (by show ¬ bL = b; omega)).trans h2, fun h => kL.trans (h3 h), fun k f e hk hf => ?_⟩
    obtain ⟨v, v1, v2⟩ := h4 k f e hk hf
    exact ⟨v, kL.trans v1, v2.oth hO fun g hg => by have := (World.ownsRow.lt v2 g hg).1; omega⟩
  · rintro bf i f V bc C hf ⟨⟨h1, q2⟩, h2, h3, h4⟩ hbf hbf2 hC hbc hfew hCi
    have hlen : C.length ≤ 32 := few_le hC.nodup (n := 32) fun x hx => by have := hfew x hx; omega
    have q1 : bF < V.heap.size := block_lt_of_cell h1
    obtain ⟨v0, hv0⟩ : ∃ v0, V.cell? ⟨bL, 0, none⟩ = some v0 := by
      by_cases hc : 0 ≤ fn ∧ fn < (i : Int)
      · obtain ⟨f2, hf2⟩ : ∃ f2, p.funcs[fn.toNat]? = some f2 := ⟨_, List.getElem?_eq_getElem (by have := (List.getElem?_eq_some_iff.1 hf).1; omega)⟩
        obtain ⟨v, v1, _⟩ := h4 fn.toNat f2 (by omega) (by omega) hf2
        exact ⟨v, v1⟩
      · exact ⟨_, h3 hc⟩
    refine (ncalls_told_any (i : Int) fn bc bF bL C v0 V h1 hv0 h2 hC (by omega)).mono ?_
    rintro e V' ⟨rfl, hne2, heq⟩
    by_cases hi : (i : Int) = fn
    · obtain ⟨w, v, hb, hv, rfl⟩ := heq hi
      have hO : Oth (· = bL) V (w.setCell ⟨bL, 0, none⟩ v) := Oth.set (S := (· = bL)) (Oth.of_below hb) (p := ⟨bL, 0, none⟩) rfl _
      have hcell : w.cell? ⟨bL, 0, none⟩ = some v0 := (hb.cell (p := ⟨bL, 0, none⟩) q2).trans hv0
      have hself : (w.setCell ⟨bL, 0, none⟩ v).cell? ⟨bL, 0, none⟩ = some v := World.cell?_setCell_same' _ _ _ (by rw [hcell]; rfl)
      refine ⟨rfl, hO, ⟨(hO.cell (p := ⟨bF, 0, none⟩) q1 hne).trans h1, Nat.lt_of_lt_of_le q2 hO.size⟩, (World.frozen?_setCell _ _ _ _).trans ((hb.frozen (p := ⟨bL, 0, none⟩) q2).trans h2), fun h => absurd (⟨by omega, by omega⟩ : 0 ≤ fn ∧ fn < ((i + 1 : Nat) : Int)) h, fun k f2 e hk hf2 => ?_⟩
      obtain rfl : k = i := by omega
      rw [hf] at hf2
      cases hf2
      refine ⟨v, hself, ?_⟩
      rw [← srtI_calls hC.nodup hCi]
      have hv2 : OwnInts w (bf + 1) v (srtI C) := ownsRow_base_a hv (by omega)
      exact hv2.oth ((Oth.refl (· = bL) w).set (p := ⟨bL, 0, none⟩) rfl _) fun g hg => by have := (World.ownsRow.lt hv2 g hg).1; omega
    · have := hne2 hi
      subst this
      refine ⟨rfl, Oth.refl _ _, ⟨h1, q2⟩, h2, fun h => h3 fun hc => h ⟨hc.1, by omega⟩, fun k f2 e hk hf2 => h4 k f2 e (by omega) hf2⟩
set_option maxRecDepth 100000 in
theorem ncalls_any (p : Pg) (vw vf : Value) (vp vb : Nat → Value) (fn : Int) (W : World) (h : PgIn W p vw vf vp vb) : Calls Try.prog 26 #[pgV vw vf, .int .i64 fn] W (RetI (p.ncalls fn) W) := by
  obtain ⟨aw, cw, rfl, -⟩ := h.widen.row.form
  obtain ⟨a, cap, rfl, -⟩ := h.funcs.row.form
  obtain ⟨n, hn⟩ : ∃ n, n = p.funcs.length := ⟨_, rfl⟩
  obtain ⟨m, hm⟩ : ∃ m, m = p.widen.length := ⟨_, rfl⟩
  rw [← hn, ← hm] at h
  rw [← hn, ← hm]
  have HP := Lib.hid h
  have Hl := Lib.hid (And.intro hm hn)
  obtain ⟨Wa, hWa⟩ : ∃ W1, W1 = W.alloc (.cells #[.slice aw m cw, .slice a n cap] 26) := ⟨_, rfl⟩
  obtain ⟨Wb, hWb⟩ : ∃ W1, W1 = Wa.alloc (.cells #[.int .i64 fn] 3) := ⟨_, rfl⟩
  obtain ⟨Wc, hWc⟩ : ∃ W1, W1 = Wb.alloc (.cells #[.slice none 0 0] 84) := ⟨_, rfl⟩
  obtain ⟨B, hB⟩ : ∃ B, B = W.heap.size := ⟨_, rfl⟩
  obtain ⟨bF, hbF⟩ : ∃ B, B = Wa.heap.size := ⟨_, rfl⟩
  obtain ⟨bL, hbL⟩ : ∃ B, B = Wb.heap.size := ⟨_, rfl⟩
  have za : Wa.heap.size = W.heap.size + 1 := by rw [hWa]; simp
  have zb : Wb.heap.size = Wa.heap.size + 1 := by rw [hWb]; simp
  have zc : Wc.heap.size = Wb.heap.size + 1 := by rw [hWc]; simp
  have ba : Below W.heap.size W Wa := by rw [hWa]; exact (Below.refl _ _).alloc (Nat.le_refl _) _
  have bb : Below Wa.heap.size Wa Wb := by rw [hWb]; exact (Below.refl _ _).alloc (Nat.le_refl _) _
  have bc : Below Wb.heap.size Wb Wc := by rw [hWc]; exact (Below.refl _ _).alloc (Nat.le_refl _) _
  have c0 : Wc.cell? ⟨B, 0, none⟩ = some (.slice aw m cw) := (bc.cell (p := ⟨B, 0, none⟩) (by show B < _; omega)).trans ((bb.cell (p := ⟨B, 0, none⟩) (by show B < _; omega)).trans (by rw [hWa, hB]; exact World.cell?_alloc_at _ _ _ _ rfl))
  have c1 : Wc.cell? ⟨B, 1, none⟩ = some (.slice a n cap) := (bc.cell (p := ⟨B, 1, none⟩) (by show B < _; omega)).trans ((bb.cell (p := ⟨B, 1, none⟩) (by show B < _; omega)).trans (by rw [hWa, hB]; exact World.cell?_alloc_at _ _ _ _ rfl))
  have cF : Wc.cell? ⟨bF, 0, none⟩ = some (.int .i64 fn) := (bc.cell (p := ⟨bF, 0, none⟩) (by show bF < _; omega)).trans (by rw [hWb, hbF]; exact World.cell?_alloc_at _ _ _ _ rfl)
  have cL : Wc.cell? ⟨bL, 0, none⟩ = some (.slice none 0 0) := by rw [hWc, hbL]; exact World.cell?_alloc_at _ _ _ _ rfl
  have fL : Wc.frozen? ⟨bL, 0, none⟩ = false := by rw [hWc, hbL]; exact World.frozen?_alloc_at _ _ _ _ rfl
  have hbc : Below W.heap.size W Wc := (ba.trans (bb.mono ba.size)).trans (bc.mono (by omega))
  have Htold := Lib.hid (ncalls_told p fn bF bL Wc cF cL fL (by omega))
  have hS : W.heap.size ≤ bL := by omega
  have hS2 : bL < Wc.heap.size := by omega
  have hbF2 : bF = W.heap.size + 1 := by omega
  have hbL2 : bL = W.heap.size + 2 := by omega
  have HW := Lib.hid (And.intro hWa (And.intro hWb (And.intro hWc (And.intro hB (And.intro hbF2 hbL2)))))
  have H1 := Lib.hid (And.intro hbc (And.intro c0 c1))
  have qB : B < Wc.heap.size := by omega
  have qBL : B ≠ bL := by omega
  unfold pgV
  clear h hn hm hWa hWb hWc hB hbF hbL hbF2 hbL2 za zb zc ba bb bc cF cL fL hbc
  go_enter Try.func26, Try.ntmps26
  go_upto_region 1 with (fail)
  go_upto_region 2 with (fail)
  rw [← HW.out.1, ← HW.out.2.1, ← HW.out.2.2.1, ← HW.out.2.2.2.2.2, ← HW.out.2.2.2.2.1, ← HW.out.2.2.2.1]
  have hPc := PgIn.later HP.out H1.out.1
  go_wp2_with fail
  refine (nall_any p (.slice aw m cw) (.slice a n cap) vp vb W Wc 40 #[ptrV bF, ptrV bL] (· = bL) (NcI p fn bF bL) HP.out H1.out.1 (fun _ h => by subst h; exact ⟨hS, hS2⟩) Htold.out).mono ?_
  rintro e w2 ⟨rfl, hO2, hI⟩
  obtain ⟨t0, ht0⟩ : ∃ t, t = p.nfault := ⟨_, rfl⟩
  rw [← ht0]
  have Ht0 := Lib.hid ht0
  have HI := Lib.hid hI
  obtain ⟨ea, eb, ec⟩ := t0
  unfold fltV
  have hb2 : Below W.heap.size W w2 := H1.out.1.trans (hO2.below H1.out.1.size fun k e => by omega)
  obtain ⟨W3, hW3⟩ : ∃ W3, W3 = w2.alloc (.cells #[.int .i64 ea, .int .i64 eb, .int .i64 ec] 32) := ⟨_, rfl⟩
  obtain ⟨D, hD⟩ : ∃ D, D = w2.heap.size := ⟨_, rfl⟩
  have hb3 : Below w2.heap.size w2 W3 := by rw [hW3]; exact (Below.refl _ _).alloc (Nat.le_refl _) _
  have d0 : W3.cell? ⟨D, 0, none⟩ = some (.int .i64 ea) := by rw [hW3, hD]; exact World.cell?_alloc_at _ _ _ _ rfl
  have hB3 : Below W.heap.size W W3 := hb2.trans (hb3.mono hb2.size)
  have q3 : bL < w2.heap.size := Nat.lt_of_lt_of_le hS2 hO2.size
  have hv : ea = 0 → ∃ v, W3.cell? ⟨bL, 0, none⟩ = some v ∧ OwnInts W3 W.heap.size v (p.ncalls fn) := by
    intro h0
    have hz : p.nfault.1 = 0 := by rw [← ht0]; exact h0
    obtain ⟨bf, hbf, ⟨h1, _⟩, h2, h3, h4⟩ := hI hz
    have hsz := H1.out.1.size
    have kL : W3.cell? ⟨bL, 0, none⟩ = w2.cell? ⟨bL, 0, none⟩ := hb3.cell (p := ⟨bL, 0, none⟩) q3
    unfold Pg.ncalls
    rw [hz]
    by_cases hc : 0 ≤ fn ∧ fn < (p.funcs.length : Int)
    · obtain ⟨f, hf⟩ : ∃ f, p.funcs[fn.toNat]? = some f := ⟨_, List.getElem?_eq_getElem (by omega)⟩
      obtain ⟨v, v1, v2⟩ := h4 fn.toNat f (by omega) (by omega) hf
      refine ⟨v, kL.trans v1, ?_⟩
      rw [if_neg (by omega), hf]
      exact ownsRow_below (ownsRow_base_a v2 (by omega)) hb3 (Nat.le_refl _)
    · refine ⟨_, kL.trans (h3 hc), ?_⟩
      have hnil : (if (0 : Int) ≠ 0 ∨ fn < 0 then ([] : List Int) else match p.funcs[fn.toNat]? with | none => [] | some f => callsN (gAt p.funcs fn.toNat) (St.ncallss f.body)) = [] := by
        by_cases hn : fn < 0
        · rw [if_pos (.inr hn)]
        · rw [if_neg (by omega), List.getElem?_eq_none (by omega)]
      rw [hnil]
      exact World.ownsRow_nil _ _ _ _
  have Hv := Lib.hid hv
  have HB3 := Lib.hid hB3
  have HW3 := Lib.hid (And.intro hW3 hD)
  clear hO2 hI ht0 hb2 hW3 hD hb3 hB3 hv c0 c1 hPc
  go_upto_region 3 with (fail)
  rw [← HW3.out.1, ← HW3.out.2]
  by_cases h0 : ea = 0
  · subst h0
    obtain ⟨v, v1, v2⟩ := Hv.out rfl
    have H2 := Lib.hid v2
    clear v2
    go_wp2_with fail
    go_ret
    exact ⟨v, rfl, H2.out, HB3.out⟩
  · have hq : (ea != 0) = true := by simp [h0]
    have Hres : Hid (p.ncalls fn = []) := by show _ = _; unfold Pg.ncalls; rw [← Ht0.out]; exact if_pos (.inl h0)
    clear h0
    go_wp2_with fail
    go_ret
    exact ⟨_, rfl, by rw [Hres.out]; exact World.ownsRow_nil _ _ _ _, HB3.out⟩
end Go.Proofs.Ytgobcldecokppaa
