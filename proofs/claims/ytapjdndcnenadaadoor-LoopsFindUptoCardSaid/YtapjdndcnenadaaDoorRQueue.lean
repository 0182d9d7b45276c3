/- The reference's round and Members: closures by a list that is gone through from its front. -/
import Derived.Test.YtapjdndcnenadaaDoorFindPlain
import Derived.Test.YtapjdndcnenadaaDoorRLists
namespace Go.Proofs.YtapjdndcnenadaaDoor
open Go.RowKit

theorem WInv.same {S0 l0 : List Int} {ex : Int → List Int} {S l l' : List Int} (h : WInv S0 l0 ex S l) (e : ∀ x, x ∈ l' ↔ x ∈ l) : WInv S0 l0 ex S l' :=
  ⟨h.s0, h.set, fun x hx => h.todo x ((e x).1 hx), fun x hx hn y hy => (h.ahead x hx hn y hy).imp_right (e y).2, fun x hx => (h.base x hx).imp_right (e x).2⟩
theorem WInv.skipF {S0 l0 : List Int} {ex : Int → List Int} {S l : List Int} {x : Int} (h : WInv S0 l0 ex S (x :: l)) (hx : x ∈ S) : WInv S0 l0 ex S l :=
  WInv.skip (h.same (l' := l ++ [x]) (fun y => by simp [or_comm])) hx
theorem WInv.addF {S0 l0 : List Int} {ex : Int → List Int} {S l : List Int} {x : Int} (h : WInv S0 l0 ex S (x :: l)) (hx : ¬ x ∈ S) : WInv S0 l0 ex (insL S x) (l ++ ex x) :=
  WInv.add (h.same (l' := l ++ [x]) (fun y => by simp [or_comm])) hx
theorem own_lowB {w w' : World} {B C : Nat} {e : TypeId} {size : Nat} {v : Value} {n : Nat} {xs : List Value} (h : w.ownsRow B e size v n xs) (hb : Below C w w') (hk : ∀ k, v.ownBlock = some k → k < C) : w'.ownsRow B e size v n xs := by
  obtain ⟨h1, h2⟩ := h
  refine ⟨h1, ?_⟩
  rcases h2 with h2 | ⟨g, cap, cur, hv, hg, hh, r⟩
  · exact Or.inl h2
  · exact Or.inr ⟨g, cap, cur, hv, hg, by rw [hb.block g (hk g (by rw [hv]; rfl))]; exact hh, r⟩

/-- Lists in memory, one for each number: what is read of them. -/
structure LLIn (w : World) (F n : Nat) (f : Int → List Int) : Prop where
  lt : F < w.heap.size
  each : ∀ x : Nat, x < n → ∃ v, w.cell? ⟨F, x, none⟩ = some v ∧ IntsIn w v (f x)
theorem LLIn.later {w w' : World} {F n : Nat} {f : Int → List Int} (h : LLIn w F n f) (hb : Below w.heap.size w w') : LLIn w' F n f :=
  ⟨Nat.lt_of_lt_of_le h.lt hb.size, fun x hx => by
    obtain ⟨v, h1, h2⟩ := h.each x hx
    exact ⟨v, (hb.cell (p := ⟨F, x, none⟩) h.lt).trans h1, SliceIn.later h2 hb⟩⟩
theorem LLIn.of {w : World} {B F n : Nat} {vs : List Value} {f : Int → List Int} (h : FromIn w B F n vs (fun x => f (x : Nat))) : LLIn w F n f :=
  ⟨(World.ownsRow.lt h.row F rfl).2, fun x hx => ⟨_, h.cell hx, SliceIn.of_owns (h.each x hx)⟩⟩

/-- A closure under way. -/
structure QL (S0 l0 : List Int) (f : Int → List Int) (w wx : World) (B n : Nat) (tv : Value) (bl : List Bool) (S L : List Int) (i : Nat) : Prop where
  been : OwnBools wx B (.slice (some ⟨B, 0, none⟩) n n) bl
  len : bl.length = n
  bit : ∀ b, b < n → bl.getD b false = decide ((b : Int) ∈ S)
  nodup : S.Nodup
  rng : ∀ x ∈ S, 0 ≤ x ∧ x < n
  todo : OwnInts wx (B + 1) tv L
  inv : WInv S0 l0 f S (L.drop i)
  le : i ≤ L.length
  big : L.length ≤ 2048 * (S.length + 1)
  below : Below w.heap.size w wx
  low : w.heap.size ≤ B
  size : B + 1 ≤ wx.heap.size
theorem QL.small {S0 l0 : List Int} {f : Int → List Int} {w wx : World} {B n : Nat} {tv : Value} {bl : List Bool} {S L : List Int} {i : Nat} (h : QL S0 l0 f w wx B n tv bl S L i) : S.length ≤ n := set_small h.nodup h.rng
theorem QL.skip {S0 l0 : List Int} {f : Int → List Int} {w wx : World} {B n : Nat} {tv : Value} {bl : List Bool} {S L : List Int} {i : Nat} (h : QL S0 l0 f w wx B n tv bl S L i) {x : Int} (hx : L[i]? = some x) (hS : x ∈ S) : QL S0 l0 f w wx B n tv bl S L (i + 1) := by
  have hi := (List.getElem?_eq_some_iff.1 hx).1
  have e : L.drop i = x :: L.drop (i + 1) := by rw [List.drop_eq_getElem_cons hi]; rw [List.getElem?_eq_getElem hi] at hx; rw [Option.some.inj hx]
  have hI := h.inv
  rw [e] at hI
  exact { h with inv := hI.skipF hS, le := hi }
theorem QL.add {S0 l0 : List Int} {f : Int → List Int} {w wx w' : World} {B n : Nat} {tv v' : Value} {bl : List Bool} {S L : List Int} {i : Nat} (h : QL S0 l0 f w wx B n tv bl S L i) {x : Nat} (hx : L[i]? = some (x : Int)) (hS : ¬ (x : Int) ∈ S) (hxn : x < n) (hl : (f x).length ≤ 2048)
    (ho : OwnInts w' (B + 1) v' (L ++ f x)) (hb : Below (B + 1) (wx.setCell ⟨B, x, none⟩ (.bool true)) w') : QL S0 l0 f w w' B n v' (bl.set x true) (insL S x) (L ++ f x) (i + 1) := by
  have hi := (List.getElem?_eq_some_iff.1 hx).1
  have e : L.drop i = (x : Int) :: L.drop (i + 1) := by rw [List.drop_eq_getElem_cons hi]; rw [List.getElem?_eq_getElem hi] at hx; rw [Option.some.inj hx]
  have hI := h.inv
  rw [e] at hI
  have e2 : (L ++ f x).drop (i + 1) = L.drop (i + 1) ++ f x := by rw [List.drop_append_of_le_length hi]
  have hsl : (insL S (x : Int)).length = S.length + 1 := by unfold insL; rw [if_neg hS]; rfl
  refine ⟨own_lowB (OwnBools.store h.been x true) hb (fun k hk => by simp [Value.ownBlock] at hk; omega), by rw [List.length_set]; exact h.len, fun b hb' => ?_, insL_nodup h.nodup x, fun y hy => ?_, ho, by rw [e2]; exact hI.addF hS, by simp; omega, ?_, (h.below.setCell h.low _).trans (hb.mono (by have := h.low; omega)), h.low, ?_⟩
  · rw [List.getD_eq_getElem?_getD, List.getElem?_set]
    by_cases hbx : x = b
    · subst hbx
      rw [if_pos rfl, if_pos (by rw [h.len]; exact hb')]
      have : (x : Int) ∈ insL S x := (insL_mem _ _ _).2 (.inl rfl)
      simp [this]
    · rw [if_neg hbx, ← List.getD_eq_getElem?_getD, h.bit b hb']
      congr 1
      rw [insL_mem]
      apply propext
      constructor
      · exact .inr
      · rintro (e3 | e3)
        · exact absurd (by omega) hbx
        · exact e3
  · rcases (insL_mem _ _ _).1 hy with rfl | hy
    · omega
    · exact h.rng y hy
  · have := h.big
    rw [List.length_append, hsl]
    omega
  · have h1 := hb.size
    have h2 := h.size
    rw [size_set] at h1
    omega

open Classical in
set_option maxRecDepth 100000 in
set_option maxHeartbeats 4000000 in
theorem rround_any (n F : Nat) (f : Int → List Int) (at' : Nat) (w : World) (hn : n ≤ 1024) (hat : at' < n) (h : LLIn w F n f) (hf : ∀ x y, y ∈ f x → 0 ≤ y ∧ y < n) (hl : ∀ x, (f x).length ≤ 2048) :
    Calls Tryd.prog 26 #[.slice (some ⟨F, 0, none⟩) n n, .int .i64 (at' : Int)] w (Gives (.bool (decide (Cl [] (f at') f (at' : Int)))) w) := by
  have H := Lib.hid (And.intro h (And.intro hf hl))
  obtain ⟨B, hB⟩ : ∃ B, B = w.heap.size := ⟨_, rfl⟩
  have hmk := fun w => make_bools_run n (by omega) w
  obtain ⟨va, hva, hia⟩ := h.each at' hat
  have hFB : F < w.heap.size := h.lt
  obtain ⟨W1, hW1⟩ : ∃ W1, W1 = (w.alloc (.cells (zeroBools n) 4)).alloc (.cells #[] 3) := ⟨_, rfl⟩
  have hb1 : Below B w W1 := by rw [hW1, hB]; exact ((Below.refl _ _).alloc (Nat.le_refl _) _).alloc (by (try simp only [World.size_alloc]); (try simp only [size_set]); omega) _
  have hs1 : W1.heap.size = B + 2 := by rw [hW1, hB]; simp
  have hbeen : OwnBools W1 B (.slice (some ⟨B, 0, none⟩) n n) (List.replicate n false) := by
    rw [hW1, hB]; exact World.ownsRow.alloc (owns_zeroBools w n (Nat.le_refl _) (by omega)) _
  have hemp : OwnInts W1 (B + 1) (.slice (some ⟨B + 1, 0, none⟩) 0 0) [] := by
    rw [hW1, hB]
    have h := owns_empty (w.alloc (.cells (zeroBools n) 4)) (B := w.heap.size + 1) 3 1 (by (try simp only [World.size_alloc]); (try simp only [size_set]); omega)
    rw [World.size_alloc] at h
    exact h
  have hva1 : W1.cell? ⟨F, at', none⟩ = some va := (hb1.cell (p := ⟨F, at', none⟩) (by rw [hB]; exact hFB)).trans hva
  have hia1 : IntsIn W1 va (f at') := SliceIn.later hia (by rw [← hB]; exact hb1)
  have hva0 := hva1
  rw [hW1] at hva0
  have HW1 := Lib.hid hW1
  have H1 := Lib.hid (And.intro hb1 (And.intro hs1 (And.intro hbeen hemp)))
  have HI1 := Lib.hid hia1
  have HB := Lib.hid hB
  have Hll : Hid (([] : List Int).length + (f at').length ≤ 1000000000000 ∧ B + 1 ≤ W1.heap.size) := ⟨by have := hl at'; simp; omega, by omega⟩
  clear h hf hl hia hW1 hb1 hs1 hbeen hemp hia1 hva
  rw [← hB] at hFB
  clear hB
  go_enter Tryd.func26, Tryd.ntmps26
  go_wp2_with (first | (at_builtin; rw [← HB.out]; rw [← HW1.out]; refine append_ints rfl _ _ rfl (B + 1) _ [] rfl H1.out.2.2.2 _ _ rfl HI1.out Hll.out.1 Hll.out.2 ?_))
  intro v6 w6 ho6 hg6 hf6 hb6
  have hb6' : Below (B + 1) W1 w6 := hb6 _ _ (Below.refl _ _) (Nat.le_refl _)
  have hQ0 : QL [] (f at') f w w6 B n v6 (List.replicate n false) [] (f at') 0 := by
    refine ⟨own_lowB H1.out.2.2.1 hb6' (fun k hk => by simp [Value.ownBlock] at hk; omega), by simp, fun b hb => by simp [List.getD, hb], List.nodup_nil, fun x hx => by simp at hx, ho6, by rw [List.drop_zero]; exact WInv.start _ _ _, Nat.zero_le _, by have := H.out.2.2 at'; simp; omega, ?_, by rw [HB.out]; exact Nat.le_refl _, ?_⟩
    · have h := H1.out.1.trans (hb6'.mono (Nat.le_succ _))
      rw [HB.out] at h
      exact h
    · have := hb6'.size; have := H1.out.2.1; omega
  have HQ0 := Lib.hid hQ0
  clear ho6 hg6 hf6 hb6 hb6' hQ0 hva1 hva0 hmk
  have hgh : Hid (2049 * (1024 - ([] : List Int).length) + ((f at').length - 0) ≤ 10000000) := by show _ ≤ _; have := H.out.2.2 at'; simp; omega
  go_wp2_with fail
  go_loopg [6, 7] (2049 * (1024 - ([] : List Int).length) + ((f at').length - 0)) (fun g tv iv wx => ∃ (S L : List Int) (bl : List Bool) (i : Nat), g = 2049 * (1024 - S.length) + (L.length - i) ∧ iv = .int .i64 (i : Int) ∧ QL [] (f at') f w wx B n tv bl S L i ∧ ¬ (at' : Int) ∈ S)
  case atStart => exact ⟨[], _, _, 0, rfl, rfl, HQ0.out, by simp⟩
  case round =>
    obtain ⟨S, L, bl, i, hg, rfl, hQ, hS⟩ := hrel
    have Hg := Lib.hid hg
    have HQ := Lib.hid hQ
    have HS := Lib.hid hS
    have hsm := hQ.small
    have hLb := hQ.big
    clear hg hQ hS
    obtain ⟨m, hm⟩ : ∃ m, m = L.length := ⟨_, rfl⟩
    have hm9 : m ≤ 10000000 := by omega
    by_cases hi : i < L.length
    · obtain ⟨gt, ct, rfl⟩ : ∃ g c, u6 = .slice (some ⟨g, 0, none⟩) L.length c := by
        rcases HQ.out.todo.form with ⟨_, h2⟩ | ⟨g, c, h, _⟩
        · rw [h2] at hi; simp at hi
        · exact ⟨g, c, h⟩
      have hcx := OwnInts.cell HQ.out.todo hi
      obtain ⟨x, hx⟩ : ∃ x, L[i]? = some x := ⟨_, List.getElem?_eq_getElem hi⟩
      rw [List.getD_eq_getElem?_getD, hx] at hcx
      have hcl : Cl [] (f at') f x := HQ.out.inv.todo x (by
        rw [List.drop_eq_getElem_cons hi]
        rw [List.getElem?_eq_getElem hi] at hx
        rw [Option.some.inj hx]; simp)
      have hxr : 0 ≤ x ∧ x < n := by
        cases hcl with
        | base h => exact H.out.2.1 _ _ h
        | step _ _ h => exact H.out.2.1 _ _ h
      obtain ⟨p, rfl⟩ : ∃ p : Nat, x = p := ⟨x.toNat, by omega⟩
      have hpn : p < n := by omega
      simp only [Option.getD_some] at hcx
      have Hcl := Lib.hid hcl
      have Hx := Lib.hid hx
      rw [← hm] at hi
      rw [← hm]
      have Hm := Lib.hid hm
      have Hrt : Hid (OwnInts wr (B + 1) (.slice (some ⟨gt, 0, none⟩) m ct) L) := by have h := HQ.out.todo; rw [← Hm.out] at h; exact h
      clear hx hxr hcl hm
      by_cases hxa : p = at'
      · have Hfin : Hid (decide (Cl [] (f at') f (at' : Int)) = true) := decide_eq_true (by have h := Hcl.out; rw [hxa] at h; exact h)
        have hq : ((p : Int) == (at' : Int)) = true := by simp [hxa]
        have Hb := Lib.hid HQ.out.below
        clear hxa
        go_wp2_with fail
        go_ret
        exact ⟨by rw [Hfin.out]; rfl, Hb.out⟩
      · have hq : ((p : Int) == (at' : Int)) = false := by simp; omega
        have hbp := OwnBools.cell HQ.out.been (k := p) (by rw [HQ.out.len]; exact hpn)
        have hfp := OwnBools.free HQ.out.been p
        rw [HQ.out.bit p hpn] at hbp
        by_cases hpS : (p : Int) ∈ S
        · rw [decide_eq_true hpS] at hbp
          have HQn := Lib.hid (HQ.out.skip Hx.out hpS)
          clear hpS hxa
          go_wp2_with fail
          go_roundg (2049 * (1024 - S.length) + (m - (i + 1)))
          case measure => have h1 := Hg.out; rw [← Hm.out] at h1; omega
          case rel => exact ⟨S, L, bl, i + 1, by rw [Hm.out], by go_num, by have h := HQn.out; rw [← Hm.out] at h; exact h, HS.out⟩
        · rw [decide_eq_false hpS] at hbp
          have hsn : S.length + 1 ≤ n := by
            have h1 := set_small (n := n) (insL_nodup HQ.out.nodup (p : Int)) (fun y hy => by
              rcases (insL_mem _ _ _).1 hy with rfl | hy
              · omega
              · exact HQ.out.rng y hy)
            unfold insL at h1
            rw [if_neg hpS] at h1
            exact h1
          have hsl : (insL S (p : Int)).length = S.length + 1 := by unfold insL; rw [if_neg hpS]; rfl
          obtain ⟨wS, hwS⟩ : ∃ W, W = wr.setCell ⟨B, p, none⟩ (.bool true) := ⟨_, rfl⟩
          obtain ⟨vp', hvp, hvi⟩ := (H.out.1.later HQ.out.below).each p hpn
          have hFB' : F < B := hFB
          have hLS : LLIn w F n f := H.out.1
          have hbS : Below w.heap.size w wS := by rw [hwS]; exact HQ.out.below.setCell HQ.out.low _
          obtain ⟨vq, hvq, hvi2⟩ := (hLS.later hbS).each p hpn
          have htS : OwnInts wS (B + 1) (.slice (some ⟨gt, 0, none⟩) m ct) L := by rw [hwS]; exact ownsRow_setCell_below (a := ⟨B, p, none⟩) Hrt.out (Nat.lt_succ_self _) _
          have hgt : B + 1 ≤ gt := by rcases Hrt.out.form with ⟨h, _⟩ | ⟨g, c, h, h2, _⟩ <;> cases h; exact h2
          have hcxS : wS.cell? ⟨gt, i, none⟩ = some (.int .i64 (p : Int)) := by
            rw [hwS, World.cell?_setCell_other _ _ _ _ (fun e => by have := congrArg Addr.block e; simp at this; omega)]
            exact hcx
          have hszS : B + 1 ≤ wS.heap.size := by rw [hwS, size_set]; exact HQ.out.size
          have Hlim : Hid (L.length + (f p).length ≤ 1000000000000 ∧ (f p).length ≤ 2048) := ⟨by have := H.out.2.2 (p : Int); omega, H.out.2.2 _⟩
          have HwS := Lib.hid hwS
          have HtS := Lib.hid htS
          have Hvi2 := Lib.hid hvi2
          have HpS := Lib.hid hpS
          have Hsl := Lib.hid (And.intro hsl hsn)
          clear hpS hxa hsn hsl hvp hvi hLS hbS hvi2 htS hFB'
          go_upto_region 10 with (fail)
          rw [← HwS.out]
          clear hwS hbp hfp hcx
          go_wp2_with (at_builtin; refine append_ints rfl _ _ rfl (B + 1) _ L rfl HtS.out _ _ rfl Hvi2.out Hlim.out.1 hszS ?_)
          intro v7 w7 ho7 hg7 hf7 hb7
          have HQn := Lib.hid (HQ.out.add Hx.out HpS.out hpn Hlim.out.2 ho7 (by rw [← HwS.out]; exact hb7 _ _ (Below.refl _ _) (Nat.le_refl _)))
          clear ho7 hg7 hf7 hb7
          go_wp2_with fail
          go_roundg (2049 * (1024 - (insL S (p : Int)).length) + ((L ++ f p).length - (i + 1)))
          case measure =>
            have h1 := Hg.out
            have h2 := Hlim.out.2
            have h3 := Hsl.out
            rw [← Hm.out] at h1
            rw [List.length_append, ← Hm.out, h3.1]
            omega
          case rel => exact ⟨_, _, _, i + 1, rfl, by go_num, HQn.out, fun hm => by
            rcases (insL_mem _ _ _).1 hm with e | e
            · have := hq; simp at this; omega
            · exact HS.out e⟩
    · have hLi : i = L.length := by have := HQ.out.le; omega
      have hI := HQ.out.inv
      rw [hLi, List.drop_length] at hI
      have Hfin : Hid (decide (Cl [] (f at') f (at' : Int)) = false) := decide_eq_false fun hc => HS.out ((hI.done _).2 (.inr hc))
      have Hb := Lib.hid HQ.out.below
      obtain ⟨ta, tc, htv⟩ := ints_form HQ.out.todo
      rw [← hm] at htv hLi
      subst htv
      clear hI hi
      go_wp2_with fail
      go_ret
      exact ⟨by rw [Hfin.out]; rfl, Hb.out⟩
open Classical in
noncomputable def memF (n h : Nat) (l0 : List Int) (f : Int → List Int) : List Bool := (List.range n).map fun b : Nat => decide ((b : Int) = (h : Int) ∨ Cl [(h : Int)] l0 f (b : Int))

open Classical in
set_option maxRecDepth 100000 in
set_option maxHeartbeats 4000000 in
theorem rmembers_any (n F : Nat) (f : Int → List Int) (at' : Nat) (va : Value) (l0 : List Int) (w : World) (hn : n ≤ 1024) (hat : at' < n) (h : LLIn w F n f) (hf : ∀ x y, y ∈ f x → 0 ≤ y ∧ y < n) (hl : ∀ x, (f x).length ≤ 2048) (hia : IntsIn w va l0) (h0 : ∀ y ∈ l0, 0 ≤ y ∧ y < n) (hl0 : l0.length ≤ 2048) :
    Calls Tryd.prog 27 #[.int .i64 n, .slice (some ⟨F, 0, none⟩) n n, .int .i64 (at' : Int), va] w (RetBools (memF n at' l0 f) w) := by
  have H := Lib.hid (And.intro h (And.intro hf hl))
  have H0 := Lib.hid (And.intro h0 hl0)
  obtain ⟨B, hB⟩ : ∃ B, B = w.heap.size := ⟨_, rfl⟩
  have hmk := fun w => make_bools_run n (by omega) w
  have hFB : F < w.heap.size := h.lt
  obtain ⟨W0, hW0⟩ : ∃ W0, W0 = (w.alloc (.cells (zeroBools n) 4)).setCell ⟨B, at', none⟩ (.bool true) := ⟨_, rfl⟩
  have hs0 : W0.heap.size = B + 1 := by rw [hW0, size_set, hB]; simp
  obtain ⟨W1, hW1⟩ : ∃ W1, W1 = W0.alloc (.cells #[] 3) := ⟨_, rfl⟩
  have hb1 : Below B w W1 := by rw [hW1]; refine Below.alloc ?_ (by omega) _; rw [hW0, hB]; exact ((Below.refl _ _).alloc (Nat.le_refl _) _).setCell (Nat.le_refl _) _
  have hs1 : W1.heap.size = B + 2 := by rw [hW1, World.size_alloc, hs0]
  have hbeen : OwnBools W1 B (.slice (some ⟨B, 0, none⟩) n n) ((List.replicate n false).set at' true) := by
    have h := owns_zeroBools w n (B := B) (by rw [hB]; exact Nat.le_refl _) (by omega)
    rw [← hB] at h
    rw [hW1, hW0]; exact World.ownsRow.alloc (OwnBools.store h at' true) _
  have hemp : OwnInts W1 (B + 1) (.slice (some ⟨B + 1, 0, none⟩) 0 0) [] := by
    rw [hW1]
    have h := owns_empty W0 (B := B + 1) 3 1 (by omega)
    rw [hs0] at h
    exact h
  have hz : ∃ v0, (w.alloc (.cells (zeroBools n) 4)).cell? ⟨B, at', none⟩ = some v0 ∧ (w.alloc (.cells (zeroBools n) 4)).frozen? ⟨B, at', none⟩ = false := by
    have h := owns_zeroBools w n (B := B) (by rw [hB]; exact Nat.le_refl _) (by omega)
    rw [← hB] at h
    exact ⟨_, OwnBools.cell h (k := at') (by simpa using hat), OwnBools.free h at'⟩
  obtain ⟨v0, hz1, hz2⟩ := hz
  rw [hB] at hz1 hz2
  have hia1 : IntsIn W1 va l0 := SliceIn.later hia (by rw [← hB]; exact hb1)
  have HW1 := Lib.hid hW1
  have H1 := Lib.hid (And.intro hb1 (And.intro hs1 (And.intro hbeen hemp)))
  have HI1 := Lib.hid hia1
  have HB := Lib.hid hB
  have Hll : Hid (([] : List Int).length + l0.length ≤ 1000000000000 ∧ B + 1 ≤ W1.heap.size) := ⟨by simp; omega, by omega⟩
  have hW0' : W0 = w.alloc (.cells ((zeroBools n).setIfInBounds at' (.bool true)) 4) := by rw [hW0, World.setCell_alloc_at _ _ _ _ _ hB]
  have HW0 := Lib.hid hW0'
  have HsW0 := Lib.hid hs0
  clear h hf hl hia hW1 hb1 hs1 hbeen hemp hia1 h0 hl0 hs0 hW0 hW0'
  rw [← hB] at hFB
  clear hB
  go_enter Tryd.func27, Tryd.ntmps27
  go_wp2_with (first | (at_builtin; rw [← HB.out]; rw [← HW0.out]; rw [← HW1.out]; refine append_ints rfl _ _ rfl (B + 1) _ [] rfl H1.out.2.2.2 _ _ rfl HI1.out Hll.out.1 Hll.out.2 ?_))
  intro v6 w6 ho6 hg6 hf6 hb6
  have hb6' : Below (B + 1) W1 w6 := hb6 _ _ (Below.refl _ _) (Nat.le_refl _)
  have hQ0 : QL [(at' : Int)] l0 f w w6 B n v6 ((List.replicate n false).set at' true) [(at' : Int)] l0 0 := by
    refine ⟨own_lowB H1.out.2.2.1 hb6' (fun k hk => by simp [Value.ownBlock] at hk; omega), by simp, fun b hb => ?_, by simp, fun x hx => by rw [List.mem_singleton.1 hx]; omega, ho6, by rw [List.drop_zero]; exact WInv.start _ _ _, Nat.zero_le _, by have := H0.out.2; simp; omega, ?_, by rw [HB.out]; exact Nat.le_refl _, ?_⟩
    · rw [List.getD_eq_getElem?_getD, List.getElem?_set]
      by_cases e : at' = b
      · subst e; simp [hb]
      · rw [if_neg e]
        have e' : ¬ (b : Int) = (at' : Int) := by omega
        simp [hb, e']
    · have h := H1.out.1.trans (hb6'.mono (Nat.le_succ _))
      rw [HB.out] at h
      exact h
    · have := hb6'.size; have := H1.out.2.1; omega
  have HQ0 := Lib.hid hQ0
  clear ho6 hg6 hf6 hb6 hb6' hQ0 hmk hz1 hz2
  have hgh : Hid (2049 * (1024 - [(at' : Int)].length) + (l0.length - 0) ≤ 10000000) := by show _ ≤ _; have := H0.out.2; simp; omega
  go_wp2_with fail
  go_loopg [10, 11] (2049 * (1024 - [(at' : Int)].length) + (l0.length - 0)) (fun g tv iv wx => ∃ (S L : List Int) (bl : List Bool) (i : Nat), g = 2049 * (1024 - S.length) + (L.length - i) ∧ iv = .int .i64 (i : Int) ∧ QL [(at' : Int)] l0 f w wx B n tv bl S L i)
  case atStart => exact ⟨_, _, _, 0, rfl, rfl, HQ0.out⟩
  case round =>
    obtain ⟨S, L, bl, i, hg, rfl, hQ⟩ := hrel
    have Hg := Lib.hid hg
    have HQ := Lib.hid hQ
    have hsm := hQ.small
    have hLb := hQ.big
    clear hg hQ
    obtain ⟨m, hm⟩ : ∃ m, m = L.length := ⟨_, rfl⟩
    have hm9 : m ≤ 10000000 := by omega
    by_cases hi : i < L.length
    · obtain ⟨gt, ct, rfl⟩ : ∃ g c, u10 = .slice (some ⟨g, 0, none⟩) L.length c := by
        rcases HQ.out.todo.form with ⟨_, h2⟩ | ⟨g, c, h, _⟩
        · rw [h2] at hi; simp at hi
        · exact ⟨g, c, h⟩
      have hcx := OwnInts.cell HQ.out.todo hi
      obtain ⟨x, hx⟩ : ∃ x, L[i]? = some x := ⟨_, List.getElem?_eq_getElem hi⟩
      rw [List.getD_eq_getElem?_getD, hx] at hcx
      have hcl : Cl [(at' : Int)] l0 f x := HQ.out.inv.todo x (by
        rw [List.drop_eq_getElem_cons hi]
        rw [List.getElem?_eq_getElem hi] at hx
        rw [Option.some.inj hx]; simp)
      have hxr : 0 ≤ x ∧ x < n := by
        cases hcl with
        | base h => exact H0.out.1 _ h
        | step _ _ h => exact H.out.2.1 _ _ h
      obtain ⟨p, rfl⟩ : ∃ p : Nat, x = p := ⟨x.toNat, by omega⟩
      have hpn : p < n := by omega
      simp only [Option.getD_some] at hcx
      have Hcl := Lib.hid hcl
      have Hx := Lib.hid hx
      rw [← hm] at hi
      rw [← hm]
      have Hm := Lib.hid hm
      have Hrt : Hid (OwnInts wr (B + 1) (.slice (some ⟨gt, 0, none⟩) m ct) L) := by have h := HQ.out.todo; rw [← Hm.out] at h; exact h
      clear hx hxr hcl hm
      have hbp := OwnBools.cell HQ.out.been (k := p) (by rw [HQ.out.len]; exact hpn)
      have hfp := OwnBools.free HQ.out.been p
      rw [HQ.out.bit p hpn] at hbp
      by_cases hpS : (p : Int) ∈ S
      · rw [decide_eq_true hpS] at hbp
        have HQn := Lib.hid (HQ.out.skip Hx.out hpS)
        clear hpS
        go_wp2_with fail
        go_roundg (2049 * (1024 - S.length) + (m - (i + 1)))
        case measure => have h1 := Hg.out; rw [← Hm.out] at h1; omega
        case rel => exact ⟨S, L, bl, i + 1, by rw [Hm.out], by go_num, by have h := HQn.out; rw [← Hm.out] at h; exact h⟩
      · rw [decide_eq_false hpS] at hbp
        have hsn : S.length + 1 ≤ n := by
          have h1 := set_small (n := n) (insL_nodup HQ.out.nodup (p : Int)) (fun y hy => by
            rcases (insL_mem _ _ _).1 hy with rfl | hy
            · omega
            · exact HQ.out.rng y hy)
          unfold insL at h1
          rw [if_neg hpS] at h1
          exact h1
        have hsl : (insL S (p : Int)).length = S.length + 1 := by unfold insL; rw [if_neg hpS]; rfl
        obtain ⟨wS, hwS⟩ : ∃ W, W = wr.setCell ⟨B, p, none⟩ (.bool true) := ⟨_, rfl⟩
        obtain ⟨vp', hvp, hvi⟩ := (H.out.1.later HQ.out.below).each p hpn
        have hFB' : F < B := hFB
        have hLS : LLIn w F n f := H.out.1
        have hbS : Below w.heap.size w wS := by rw [hwS]; exact HQ.out.below.setCell HQ.out.low _
        obtain ⟨vq, hvq, hvi2⟩ := (hLS.later hbS).each p hpn
        have htS : OwnInts wS (B + 1) (.slice (some ⟨gt, 0, none⟩) m ct) L := by rw [hwS]; exact ownsRow_setCell_below (a := ⟨B, p, none⟩) Hrt.out (Nat.lt_succ_self _) _
        have hgt : B + 1 ≤ gt := by rcases Hrt.out.form with ⟨h, _⟩ | ⟨g, c, h, h2, _⟩ <;> cases h; exact h2
        have hcxS : wS.cell? ⟨gt, i, none⟩ = some (.int .i64 (p : Int)) := by
          rw [hwS, World.cell?_setCell_other _ _ _ _ (fun e => by have := congrArg Addr.block e; simp at this; omega)]
          exact hcx
        have hszS : B + 1 ≤ wS.heap.size := by rw [hwS, size_set]; exact HQ.out.size
        have Hlim : Hid (L.length + (f p).length ≤ 1000000000000 ∧ (f p).length ≤ 2048) := ⟨by have := H.out.2.2 (p : Int); omega, H.out.2.2 _⟩
        have HwS := Lib.hid hwS
        have HtS := Lib.hid htS
        have Hvi2 := Lib.hid hvi2
        have HpS := Lib.hid hpS
        have Hsl := Lib.hid (And.intro hsl hsn)
        clear hpS hsn hsl hvp hvi hLS hbS hvi2 htS hFB'
        go_upto_region 9 with (fail)
        rw [← HwS.out]
        clear hwS hbp hfp hcx
        go_wp2_with (at_builtin; refine append_ints rfl _ _ rfl (B + 1) _ L rfl HtS.out _ _ rfl Hvi2.out Hlim.out.1 hszS ?_)
        intro v7 w7 ho7 hg7 hf7 hb7
        have HQn := Lib.hid (HQ.out.add Hx.out HpS.out hpn Hlim.out.2 ho7 (by rw [← HwS.out]; exact hb7 _ _ (Below.refl _ _) (Nat.le_refl _)))
        clear ho7 hg7 hf7 hb7
        go_wp2_with fail
        go_roundg (2049 * (1024 - (insL S (p : Int)).length) + ((L ++ f p).length - (i + 1)))
        case measure =>
          have h1 := Hg.out
          have h2 := Hlim.out.2
          have h3 := Hsl.out
          rw [← Hm.out] at h1
          rw [List.length_append, ← Hm.out, h3.1]
          omega
        case rel => exact ⟨_, _, _, i + 1, rfl, by go_num, HQn.out⟩
    · have hLi : i = L.length := by have := HQ.out.le; omega
      have hI := HQ.out.inv
      rw [hLi, List.drop_length] at hI
      have Hfin : Hid (bl = memF n at' l0 f) := by
        show bl = memF n at' l0 f
        refine List.ext_getElem? fun b => ?_
        unfold memF
        by_cases hb : b < n
        · have h1 := HQ.out.bit b hb
          have hbl : b < bl.length := by rw [HQ.out.len]; exact hb
          rw [List.getD_eq_getElem?_getD, List.getElem?_eq_getElem hbl] at h1
          rw [List.getElem?_eq_getElem hbl]
          simp only [Option.getD_some] at h1
          rw [h1]
          simp only [List.getElem?_map, List.getElem?_range hb, Option.map_some]
          congr 1
          have := hI.done (b : Int)
          simp only [List.mem_singleton] at this
          simp [this]
        · rw [List.getElem?_eq_none (by rw [HQ.out.len]; omega), List.getElem?_eq_none (by simp; omega)]
      have Hb := Lib.hid HQ.out.below
      obtain ⟨ta, tc, htv⟩ := ints_form HQ.out.todo
      rw [← hm] at htv hLi
      subst htv
      clear hI hi
      go_wp2_with fail
      go_ret
      exact ⟨_, rfl, by rw [← Hfin.out]; exact ownsRow_mono HQ.out.been HQ.out.low, Hb.out⟩
end Go.Proofs.YtapjdndcnenadaaDoor
