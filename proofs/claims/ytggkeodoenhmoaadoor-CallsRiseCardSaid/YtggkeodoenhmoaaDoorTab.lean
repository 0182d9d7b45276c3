/- R15.Table and R15.Leads of the reference. -/
import Derived.Test.YtggkeodoenhmoaaDoorLeadPlain
namespace Go.Proofs.YtggkeodoenhmoaaDoor
open Go.RowKit

theorem Tryd.infoInts : (Tryd.prog.info? 27).map (fun i => (i.zero, i.size, i.bytes)) = some (some (.slice none 0 0), 1, 24) := by kernel_rfl
/-- The slice value v reads in w as the lists T. -/
def TabIn (w : World) (v : Value) (T : List (List Int)) : Prop := ∃ vs : List Value, SliceIn w v T.length 1 vs ∧ vs.length = T.length ∧ ∀ (k : Nat) x l, vs[k]? = some x → T[k]? = some l → IntsIn w x l
theorem TabIn.later {w w' : World} {v : Value} {T : List (List Int)} (h : TabIn w v T) (hb : Below w.heap.size w w') : TabIn w' v T := by
  obtain ⟨vs, h1, h2, h3⟩ := h
  exact ⟨vs, SliceIn.later h1 hb, h2, fun k x l hx hl => SliceIn.later (h3 k x l hx hl) hb⟩
theorem TabIn.at {w : World} {a : Option Addr} {n cap : Nat} {T : List (List Int)} (h : TabIn w (.slice a n cap) T) {k : Nat} {l : List Int} (hk : T[k]? = some l) :
    n = T.length ∧ ∃ b off x, a = some ⟨b, off, none⟩ ∧ b < w.heap.size ∧ w.cell? ⟨b, off + k, none⟩ = some x ∧ IntsIn w x l := by
  obtain ⟨vs, h1, h2, h3⟩ := h
  have hlt := (List.getElem?_eq_some_iff.1 hk).1
  obtain ⟨_, a', cap', hv, _, _, _, hc⟩ := h1
  cases hv
  obtain ⟨b, off, rfl, hb, hc⟩ := hc (by omega)
  have hx : vs[k]? = some (vs[k]'(by omega)) := List.getElem?_eq_getElem _
  exact ⟨rfl, b, off, _, rfl, hb, hc k _ hx, h3 k _ l hx hk⟩
noncomputable def tabL (F : List FR) : List (List Int) := (List.range F.length).map fun k : Nat => ofFn F (k : Int)
theorem tabL_len (F : List FR) : (tabL F).length = F.length := by simp [tabL]
theorem tabL_at {F : List FR} {k : Nat} (h : k < F.length) : (tabL F)[k]? = some (ofFn F (k : Int)) := by
  unfold tabL; rw [List.getElem?_map, List.getElem?_range h]; rfl

set_option maxRecDepth 100000 in
set_option maxHeartbeats 2000000 in
theorem table_any (vt vf : Value) (F : List FR) (w : World) (hF : FuncsIn w vf F) (hn32 : F.length ≤ 32) :
    Calls Tryd.prog 21 #[modV vt vf] w fun e w' => ∃ v, e = .returned v ∧ TabIn w' v (tabL F) ∧ Below w.heap.size w w' := by
  have hF0 := hF
  obtain ⟨-, af, cf, hvf, -⟩ := hF.row
  subst hvf
  obtain ⟨n, hn⟩ : ∃ n, n = F.length := ⟨_, rfl⟩
  rw [← hn] at hn32 ⊢
  obtain ⟨W1, hW1⟩ : ∃ W1, W1 = (w.alloc (.cells #[vt, .slice af n cf] 25)).alloc (.cells #[] 27) := ⟨_, rfl⟩
  have hs1 : W1.heap.size = w.heap.size + 2 := by rw [hW1]; simp
  have hb1 : Below w.heap.size w W1 := by rw [hW1]; exact ((Below.refl _ _).alloc (Nat.le_refl _) _).alloc (by (try simp only [World.size_alloc]); (try simp only [size_set]); omega) _
  have hm1 : ModAt W1 w.heap.size vt (.slice af n cf) := by rw [hW1]; exact (ModAt.box w vt _ _).later ((Below.refl (w.heap.size + 1) _).alloc (by (try simp only [World.size_alloc]); (try simp only [size_set]); omega) _) (Nat.lt_succ_self _)
  have ho1 : W1.ownsRow (w.heap.size + 1) 27 1 (.slice (some ⟨w.heap.size + 1, 0, none⟩) 0 0) 0 [] := by
    rw [hW1]
    have := owns_empty (w.alloc (.cells #[vt, .slice af n cf] 25)) (B := w.heap.size + 1) 27 1 (by simp)
    simpa using this
  have H1 := Lib.hid (And.intro hs1 (And.intro hb1 (And.intro hm1 ho1)))
  have HF := Lib.hid hF0
  have Hn := Lib.hid hn
  have HW1 := Lib.hid hW1
  clear hF hF0 hn hs1 hb1 hm1 ho1 hW1
  go_enter Tryd.func21, Tryd.ntmps21
  go_wp2_with fail
  rw [← HW1.out]
  go_loopw [3, 4] (fun v i wr => ∃ (k : Nat) (vs : List Value), k ≤ n ∧ i = .int .i64 k ∧ vs.length = k ∧ wr.ownsRow (w.heap.size + 1) 27 1 v k vs ∧ (∀ (j : Nat) x, vs[j]? = some x → IntsIn wr x (ofFn F (j : Int)) ∧ ∀ b, x.ownBlock = some b → w.heap.size < b ∧ b < wr.heap.size ∧ v.ownBlock ≠ some b) ∧
    ModAt wr w.heap.size vt (.slice af n cf) ∧ Below w.heap.size w wr ∧ w.heap.size + 2 ≤ wr.heap.size) (fun _ i _ => n - (intOf i).toNat)
  case atStart => exact ⟨0, [], Nat.zero_le _, rfl, rfl, H1.out.2.2.2, fun j x h => by simp at h, H1.out.2.2.1, H1.out.2.1, by have := H1.out.1; omega⟩
  case round =>
    obtain ⟨k, vs, hk, rfl, hvl, hown, hvs, hm, hb, hs⟩ := hrel
    obtain ⟨m0, m1⟩ := hm
    have hlt0 : w.heap.size < wr.heap.size := by omega
    by_cases hkn : k < n
    · have hFr : FuncsIn wr (.slice af n cf) F := by have := HF.out.later hb; rwa [← Hn.out] at this
      have Hr := Lib.hid (And.intro hvl (And.intro hown (And.intro hvs (And.intro (And.intro m0 m1) hb))))
      have HFr := Lib.hid hFr
      clear hvl hown hvs hb hFr
      go_wp2_with fail
      refine (rof_any vt _ F (k : Int) _ HFr.out).mono ?_
      rintro e w5 ⟨v5, rfl, hv5, hb5⟩
      obtain ⟨hvl, hown, hvs, ⟨m0', m1'⟩, hb⟩ := Hr.out
      have hs5 := hb5.size
      have hown5 := ownsRow_below hown hb5 (Nat.le_refl _)
      obtain ⟨a5, l5, c5, rfl⟩ := row_form hv5
      have Hown5 := Lib.hid (World.ownsRow.alloc hown5 (.cells #[.slice a5 l5 c5] 27))
      have Hsrc : Hid (SliceIn (w5.alloc (.cells #[.slice a5 l5 c5] 27)) (.slice (some ⟨w5.heap.size, 0, none⟩) 1 1) 1 1 [.slice a5 l5 c5]) := sliceIn_new w5 [.slice a5 l5 c5] 1 1 27 rfl (by decide)
      have Hone : Hid (∀ u ∈ [Value.slice a5 l5 c5], u.oneCell' = true) := fun u hu => by simp at hu; subst hu; rfl
      have Hll : Hid (k + 1 ≤ maxLen ∧ (k + 1) * 24 ≤ 140737488355328) := by show _ ∧ _; unfold maxLen; exact ⟨by omega, by omega⟩
      have HsA : Hid (w.heap.size + 1 ≤ (w5.alloc (.cells #[.slice a5 l5 c5] 27)).heap.size) := by show _ ≤ _; simp; omega
      have H5 := Lib.hid (And.intro hv5 hb5)
      clear hvl hown hvs hb hb5 hown5 hv5 m0' m1'
      go_wp2_with (at_builtin; (refine append_gen rfl _ _ 63 rfl Tryd.underlying63 Tryd.infoInts rfl (by decide) (w.heap.size + 1) _ k vs rfl Hown5.out _ 1 _ rfl Hsrc.out Hone.out Hll.out.1 Hll.out.2 HsA.out ?_))
      intro v8 w8 ho8 hg8 hf8 hb8
      obtain ⟨hvl, hown, hvs, hm, hb⟩ := Hr.out
      obtain ⟨hv5, hb5⟩ := H5.out
      have hs7 : (w5.alloc (.cells #[.slice a5 l5 c5] 27)).heap.size = w5.heap.size + 1 := by simp
      have hs8 : w5.heap.size + 1 ≤ w8.heap.size := by have := hg8.size; rw [hs7] at this; exact this
      have hbm : Below (w.heap.size + 1) wr w8 := hb8 _ _ ((hb5.mono (by omega)).alloc (by omega) _) (Nat.le_refl _)
      have hkeep : ∀ b, b < w5.heap.size → u3.ownBlock ≠ some b → w8.heap[b]? = w5.heap[b]? := fun b hlt hne => by
        rw [hg8.block b (by rw [hs7]; omega) (fun e => hne e.symm), Below.heap_alloc _ _ _ hlt]
      have hall : ∀ (j : Nat) x, (vs ++ [Value.slice a5 l5 c5])[j]? = some x → IntsIn w8 x (ofFn F (j : Int)) ∧ ∀ b, x.ownBlock = some b → w.heap.size < b ∧ b < w8.heap.size ∧ v8.ownBlock ≠ some b := by
        intro j x hx
        have hold : IntsIn w5 x (ofFn F (j : Int)) ∧ ∀ b, x.ownBlock = some b → w.heap.size < b ∧ b < w5.heap.size ∧ u3.ownBlock ≠ some b := by
          by_cases hj : j < vs.length
          · rw [List.getElem?_append_left hj] at hx
            obtain ⟨h1, h2⟩ := hvs j x hx
            exact ⟨SliceIn.later h1 hb5, fun b hb => by obtain ⟨h3, h4, h5⟩ := h2 b hb; exact ⟨h3, by omega, h5⟩⟩
          · have hlt := (List.getElem?_eq_some_iff.1 hx).1
            simp at hlt
            rw [List.getElem?_append_right (by omega), show j - vs.length = 0 by omega] at hx
            have e : Value.slice a5 l5 c5 = x := by simpa using hx
            subst e
            rw [show j = k by omega]
            refine ⟨SliceIn.of_owns hv5, fun b hb => ?_⟩
            have h3 := World.ownsRow.lt hv5 b hb
            refine ⟨by omega, h3.2, fun e => ?_⟩
            have := (World.ownsRow.lt hown b e).2
            omega
        refine ⟨?_, fun b hb => ?_⟩
        · obtain ⟨h1, a', cap', rfl, h2, h3, h4, h5⟩ := hold.1
          refine ⟨h1, a', cap', rfl, h2, h3, h4, fun h0 => ?_⟩
          obtain ⟨b, off, rfl, hlt, hc⟩ := h5 h0
          have h6 := hold.2 b rfl
          exact ⟨b, off, rfl, by omega, fun j u hu => (World.cell?_of_block (w := w5) (hkeep b h6.2.1 h6.2.2)).trans (hc j u hu)⟩
        · obtain ⟨h1, h2, h3⟩ := hold.2 b hb
          exact ⟨h1, by omega, hf8 b (by rw [hs7]; omega) h3⟩
      have H8 := Lib.hid (And.intro ho8 (And.intro hall (And.intro (ModAt.later (ModAt.mk hm.1 hm.2) hbm (by omega)) (hb.trans (hbm.mono (by omega))))))
      have hs8' : w.heap.size + 2 ≤ w8.heap.size := by omega
      have Hvl := Lib.hid hvl
      clear ho8 hg8 hf8 hb8 hvl hown hvs hm hb hv5 hb5 hs7 hbm hkeep hall
      go_wp2_with fail
      go_roundw
      case rel => exact ⟨k + 1, _, by omega, by go_num, by simp [Hvl.out], H8.out.1, H8.out.2.1, H8.out.2.2.1, H8.out.2.2.2, hs8'⟩
      case measure => simp [intOf]; omega
    · have ek : k = n := by omega
      subst ek
      have Hr := Lib.hid (And.intro hvl (And.intro hown (And.intro hvs hb)))
      clear hvl hown hvs hb
      go_wp2_with fail
      go_ret
      obtain ⟨hvl, hown, hvs, hb⟩ := Hr.out
      refine ⟨_, rfl, ⟨vs, ?_, by rw [hvl, tabL_len]; exact Hn.out, fun j x l hx hl => ?_⟩, hb⟩
      · rw [tabL_len, ← Hn.out]; exact SliceIn.of_owns hown
      · rw [tabL_at (by have := (List.getElem?_eq_some_iff.1 hl).1; rwa [tabL_len] at this)] at hl
        cases hl
        exact (hvs j x hx).1

/-! ### Leads -/
/-- While those that one leads tg are gathered in a list: been, those that have been; i, how far one is. -/
structure LQ (F : List FR) (f tg : Int) (been : List Bool) (todo : List Int) (i : Nat) : Prop where
  len : been.length = F.length
  sound : ∀ x ∈ todo, Lead F f x
  first : ∀ g ∈ ofFn F f, g ∈ todo
  closed : ∀ x : Nat, been.getD x false = true → ∀ g ∈ ofFn F (x : Int), g ∈ todo
  past : ∀ (j : Nat) x, j < i → todo[j]? = some x → x ≠ tg ∧ been.getD x.toNat false = true
theorem LQ.start {F : List FR} (f tg : Int) : LQ F f tg (List.replicate F.length false) (ofFn F f) 0 :=
  ⟨by simp, fun x h => .one h, fun g h => h, fun x h => by simp [List.getD, List.getElem?_replicate] at h; split at h <;> simp at h, fun j x h => by omega⟩
theorem LQ.hit {F : List FR} {f tg : Int} {been : List Bool} {todo : List Int} {i : Nat} (h : LQ F f tg been todo i) {x : Int} (hx : todo[i]? = some x) (e : x = tg) : Lead F f tg := by
  rw [← e]; exact h.sound x (List.mem_of_getElem? hx)
theorem LQ.skip {F : List FR} {f tg : Int} {been : List Bool} {todo : List Int} {i : Nat} (h : LQ F f tg been todo i) {x : Int} (hx : todo[i]? = some x) (hne : x ≠ tg) (hb : been.getD x.toNat false = true) : LQ F f tg been todo (i + 1) :=
  ⟨h.len, h.sound, h.first, h.closed, fun j y hj hy => by
    by_cases e : j = i
    · subst e; rw [hx] at hy; cases hy; exact ⟨hne, hb⟩
    · exact h.past j y (by omega) hy⟩
theorem LQ.mark {F : List FR} {f tg : Int} {been : List Bool} {todo : List Int} {i : Nat} (h : LQ F f tg been todo i) {x : Nat} (hx : todo[i]? = some (x : Int)) (hne : (x : Int) ≠ tg) : LQ F f tg (been.set x true) (todo ++ ofFn F (x : Int)) (i + 1) := by
  have hl := h.sound _ (List.mem_of_getElem? hx)
  have hxr := hl.range
  have hg : ∀ y : Nat, (been.set x true).getD y false = true ↔ y = x ∨ been.getD y false = true := fun y => by
    by_cases e : y = x
    · subst e; rw [List.getD_eq_getElem?_getD, List.getElem?_set_self (by rw [h.len]; omega)]; simp
    · rw [List.getD_eq_getElem?_getD, List.getElem?_set_ne (by omega), ← List.getD_eq_getElem?_getD]; simp [e]
  refine ⟨by rw [List.length_set]; exact h.len, fun y hy => ?_, fun g hg => by simp [h.first g hg], fun y hy g hgy => ?_, fun j y hj hy => ?_⟩
  · rcases List.mem_append.1 hy with hy | hy
    · exact h.sound y hy
    · exact hl.more hy
  · rcases (hg y).1 hy with rfl | hy
    · simp [hgy]
    · simp [h.closed y hy g hgy]
  · have hil : i < todo.length := (List.getElem?_eq_some_iff.1 hx).1
    rw [List.getElem?_append_left (by omega)] at hy
    by_cases e : j = i
    · subst e; rw [hx] at hy; cases hy; exact ⟨hne, by rw [hg]; left; omega⟩
    · obtain ⟨h1, h2⟩ := h.past j y (by omega) hy
      exact ⟨h1, (hg _).2 (.inr h2)⟩
theorem LQ.done {F : List FR} {f tg : Int} {been : List Bool} {todo : List Int} {i : Nat} (h : LQ F f tg been todo i) (hi : todo.length ≤ i) : ¬ Lead F f tg := by
  have hall : ∀ x, Lead F f x → x ∈ todo := fun x hl => by
    induction hl with
    | one hg => exact h.first _ hg
    | more hl hg ih =>
      obtain ⟨j, hj⟩ := List.getElem?_of_mem ih
      have := (h.past j _ (by have := (List.getElem?_eq_some_iff.1 hj).1; omega) hj).2
      have hr := hl.range
      have e := h.closed _ this
      rw [show ((Int.toNat _ : Nat) : Int) = _ from Int.toNat_of_nonneg hr.1] at e
      exact e _ hg
  intro hl
  obtain ⟨j, hj⟩ := List.getElem?_of_mem (hall _ hl)
  exact (h.past j _ (by have := (List.getElem?_eq_some_iff.1 hj).1; omega) hj).1 rfl

theorem row_at_block {w w' : World} {B n : Nat} {e : TypeId} {size : Nat} {v : Value} {xs : List Value} (h : w.ownsRow B e size v n xs) (hk : ∀ g, v.ownBlock = some g → w'.heap[g]? = w.heap[g]?) : w'.ownsRow B e size v n xs := by
  obtain ⟨h1, h2⟩ := h
  refine ⟨h1, ?_⟩
  rcases h2 with h2 | ⟨g, cap, cur, rfl, hg, hh, r⟩
  · exact .inl h2
  · exact .inr ⟨g, cap, cur, rfl, hg, by rw [hk g rfl]; exact hh, r⟩

set_option maxRecDepth 100000 in
set_option maxHeartbeats 2000000 in
theorem rleads_any (v : Value) (F : List FR) (f : Nat) (tg : Int) (w : World) (ht : TabIn w v (tabL F)) (hf : f < F.length) (hn32 : F.length ≤ 32) :
    Calls Tryd.prog 22 #[v, .int .i64 (f : Int), .int .i64 tg] w fun e w' => ∃ b : Bool, e = .returned (.bool b) ∧ (b = true ↔ Lead F f tg) ∧ Below w.heap.size w w' := by
  have ht0 := ht
  obtain ⟨vs, hsl, -, -⟩ := ht0
  obtain ⟨-, at', ct, rfl, -⟩ := hsl
  obtain ⟨n, hn⟩ : ∃ n, n = F.length := ⟨_, rfl⟩
  rw [tabL_len, ← hn] at ht ⊢
  rw [← hn] at hf hn32
  obtain ⟨-, bt, ot, xf, rfl, hbt, hcf, hxf⟩ := ht.at (k := f) (tabL_at (by omega))
  have hxf0 := hxf
  obtain ⟨-, axf, cxf, rfl, -⟩ := hxf0
  have Ht := Lib.hid ht
  have Hn := Lib.hid hn
  have Hxf := Lib.hid hxf
  have hofl := ofFn_len F (f : Int)
  obtain ⟨lf, hlf⟩ : ∃ lf, lf = (ofFn F (f : Int)).length := ⟨_, rfl⟩
  rw [← hlf] at hcf hofl
  have Hlf := Lib.hid hlf
  clear ht hn hxf hlf
  go_enter Tryd.func22, Tryd.ntmps22
  go_wp2_with (at_make; refine make_bools rfl _ _ rfl w.heap.size n rfl rfl (by omega) (Nat.le_refl _) ?_)
  intro w1 hbeen hg1
  have hb1 : Below w.heap.size w w1 := Below.grown (Below.refl _ _) hg1 (Nat.le_refl _) (by intro k hk; cases hk)
  have hs1 : w.heap.size + 1 ≤ w1.heap.size := by have := (World.ownsRow.lt hbeen w.heap.size rfl).2; omega
  have hcf1 := (hb1.cell (p := ⟨bt, ot + f, none⟩) hbt).trans hcf
  have hbt1 : bt < w1.heap.size := by omega
  have hO1 : OwnInts (w1.alloc (.cells #[] 3)) (w.heap.size + 1) (.slice (some ⟨w1.heap.size, 0, none⟩) 0 0) [] := owns_empty w1 _ _ (by omega)
  have hS1 : IntsIn (w1.alloc (.cells #[] 3)) (.slice axf lf cxf) (ofFn F (f : Int)) := by have := SliceIn.later Hxf.out (hb1.alloc (by omega) (.cells #[] 3)); rw [← Hlf.out] at this; unfold IntsIn; rw [← Hlf.out]; exact this
  have H1 := Lib.hid (And.intro hbeen (And.intro hb1 (And.intro hO1 hS1)))
  have Hl1 : Hid (([] : List Int).length + (ofFn F (f : Int)).length ≤ 1000000000000) := by show _ ≤ _; rw [← Hlf.out]; simp; omega
  have HsA : Hid (w.heap.size + 1 ≤ (w1.alloc (.cells #[] 3)).heap.size) := by show _ ≤ _; simp; omega
  clear hbeen hb1 hg1 hO1 hS1 hcf
  go_wp2_with (at_builtin; refine append_ints rfl _ _ rfl (w.heap.size + 1) _ [] rfl H1.out.2.2.1 _ (ofFn F (f : Int)) rfl H1.out.2.2.2 Hl1.out HsA.out ?_)
  intro v2 w2 ho2 hg2 hf2 hb2
  have hbS : Below (w.heap.size + 1) w1 w2 := hb2 _ _ ((Below.refl _ _).alloc (by omega) _) (Nat.le_refl _)
  have hbeen2 : OwnBools w2 w.heap.size (.slice (some ⟨w.heap.size, 0, none⟩) n n) (List.replicate n false) := by
    exact row_at_block H1.out.1 (fun g hg => by
      have e := Option.some.inj (show some w.heap.size = some g from hg)
      exact hbS.block g (by omega))
  have hs2 : w.heap.size + 1 ≤ w2.heap.size := by have := hbS.size; omega
  have H2 := Lib.hid (And.intro hbeen2 (And.intro (by simpa using ho2 : OwnInts w2 (w.heap.size + 1) v2 (ofFn F (f : Int))) (H1.out.2.1.trans (hbS.mono (by omega)))))
  clear hbeen2 ho2 hg2 hf2 hb2 hbS H1 hcf1
  go_wp2_with fail
  go_loopg [8, 9] (1026 * n + lf) (fun g v i wr => ∃ (been : List Bool) (todo : List Int) (k : Nat), (g = 1026 * been.count false + (todo.length - k) ∧ todo.length + 1026 * been.count false ≤ 100000) ∧ k ≤ todo.length ∧ i = .int .i64 k ∧ LQ F f tg been todo k ∧
    OwnBools wr w.heap.size (.slice (some ⟨w.heap.size, 0, none⟩) n n) been ∧ OwnInts wr (w.heap.size + 1) v todo ∧ Below w.heap.size w wr ∧ w.heap.size + 1 ≤ wr.heap.size)
  case atStart =>
    refine ⟨List.replicate n false, ofFn F (f : Int), 0, ⟨by rw [List.count_replicate_self, Hlf.out]; omega, by rw [List.count_replicate_self, ← Hlf.out]; omega⟩, Nat.zero_le _, rfl, by rw [Hn.out]; exact LQ.start _ _, H2.out.1, H2.out.2.1, H2.out.2.2, hs2⟩
  case round =>
    obtain ⟨been, todo, k, hg, hk, rfl, hq, hbn, htd, hb, hs⟩ := hrel
    by_cases hkn : k < todo.length
    · obtain ⟨x, hx⟩ : ∃ x, todo[k]? = some x := ⟨todo[k]'hkn, List.getElem?_eq_getElem _⟩
      have hxr := (hq.sound x (List.mem_of_getElem? hx)).range
      obtain ⟨X, rfl⟩ := Int.eq_ofNat_of_zero_le hxr.1
      rw [← Hn.out] at hxr
      have hXn : X < n := by omega
      have hform : ∃ g8 c8, u8 = .slice (some ⟨g8, 0, none⟩) todo.length c8 ∧ w.heap.size + 1 ≤ g8 ∧ g8 < wr.heap.size := by
        rcases htd.form with ⟨_, h⟩ | ⟨g, c, h, h2, h3, _⟩
        · rw [h] at hkn; simp at hkn
        · exact ⟨g, c, h, h2, h3⟩
      obtain ⟨g8, c8, rfl, hg8, hg8s⟩ := hform
      have hck : wr.cell? ⟨g8, k, none⟩ = some (.int .i64 (X : Int)) := by
        have := OwnInts.cell htd hkn
        simpa [List.getD, hx] using this
      obtain ⟨L8, hL8⟩ : ∃ L8, L8 = todo.length := ⟨_, rfl⟩
      have hkL : k < L8 := by omega
      have hL1 : L8 ≤ 100000 := by omega
      rw [← hL8] at htd ⊢
      have HL8 := Lib.hid hL8
      have Hg := Lib.hid hg
      have Hq := Lib.hid hq
      have Hx := Lib.hid hx
      have Hs := Lib.hid (And.intro hbn (And.intro htd hb))
      by_cases heq : (X : Int) = tg
      · have Hl := Lib.hid (hq.hit hx heq)
        subst heq
        clear hg hq hx hbn htd hb hL8
        go_wp2_with fail
        go_ret
        exact ⟨true, rfl, ⟨fun _ => Hl.out, fun _ => rfl⟩, Hs.out.2.2⟩
      · have heqb : ((X : Int) == tg) = false := beq_eq_false_iff_ne.2 heq
        have Heq := Lib.hid heq
        have hbc : wr.cell? ⟨w.heap.size, X, none⟩ = some (.bool (been.getD X false)) := OwnBools.cell hbn (by rw [hq.len, ← Hn.out]; exact hXn)
        have hbf : wr.frozen? ⟨w.heap.size, X, none⟩ = false := OwnBools.free hbn X
        have hblen : X < been.length := by rw [hq.len, ← Hn.out]; exact hXn
        cases hbX : been.getD X false
        · rw [hbX] at hbc
          have Hbb := Lib.hid hbX
          have hb2 : Below w.heap.size w (wr.setCell ⟨w.heap.size, X, none⟩ (.bool true)) := hb.setCell (Nat.le_refl _) _
          have ht2 := Ht.out.later hb2
          obtain ⟨-, bt', ot', xX, hbe, hbt', hcX, hxX⟩ := ht2.at (k := X) (tabL_at (by rw [← Hn.out]; exact hXn))
          cases hbe
          have hxX0 := hxX
          obtain ⟨-, aX, cX, rfl, -⟩ := hxX0
          obtain ⟨lX, hlX⟩ : ∃ lX, lX = (ofFn F (X : Int)).length := ⟨_, rfl⟩
          have hlX1 : lX ≤ 1024 := by rw [hlX]; exact ofFn_len F _
          have hxX' : IntsIn (wr.setCell ⟨w.heap.size, X, none⟩ (.bool true)) (.slice aX lX cX) (ofFn F (X : Int)) := by rw [hlX]; exact hxX
          rw [← hlX] at hcX
          have htd2 : OwnInts (wr.setCell ⟨w.heap.size, X, none⟩ (.bool true)) (w.heap.size + 1) (.slice (some ⟨g8, 0, none⟩) L8 c8) todo := ownsRow_setCell_below (a := ⟨w.heap.size, X, none⟩) (by unfold OwnInts at htd; rw [← hL8] at htd; rw [← hL8]; exact htd) (by show w.heap.size < _; omega) _
          have hck2 : (wr.setCell ⟨w.heap.size, X, none⟩ (.bool true)).cell? ⟨g8, k, none⟩ = some (.int .i64 (X : Int)) := by rw [World.cell?_setCell_other _ _ _ _ (by intro e; cases e; omega)]; exact hck
          have hbn2 : OwnBools (wr.setCell ⟨w.heap.size, X, none⟩ (.bool true)) w.heap.size (.slice (some ⟨w.heap.size, 0, none⟩) n n) (been.set X true) := OwnBools.store hbn X true
          have HlX := Lib.hid hlX
          have H2 := Lib.hid (And.intro hb2 (And.intro hxX' (And.intro htd2 hbn2)))
          have Hll : Hid (todo.length + (ofFn F (X : Int)).length ≤ 1000000000000) := by show _ ≤ _; rw [← hL8, ← hlX]; omega
          have hsz2 : w.heap.size + 1 ≤ (wr.setCell ⟨w.heap.size, X, none⟩ (.bool true)).heap.size := by rw [size_set]; exact hs
          clear hg hq hx hbn htd hb hL8 hbX hb2 ht2 hxX hxX' htd2 hbn2 hlX
          go_wp2_with (at_builtin; refine append_ints rfl _ _ rfl (w.heap.size + 1) _ todo rfl H2.out.2.2.1 _ (ofFn F (X : Int)) rfl H2.out.2.1 Hll.out hsz2 ?_)
          intro v4 w4 ho4 hg4 hf4 hb4
          have hbS := hb4 (w.heap.size + 1) _ (Below.refl _ _) (Nat.le_refl _)
          have hbn4 := row_at_block H2.out.2.2.2 (fun g hg => by
            have e := Option.some.inj (show some w.heap.size = some g from hg)
            exact hbS.block g (by omega))
          have hs4 : w.heap.size + 1 ≤ w4.heap.size := by have := hbS.size; omega
          have H4 := Lib.hid (And.intro ho4 (And.intro hbn4 (H2.out.1.trans (hbS.mono (by omega)))))
          clear ho4 hg4 hf4 hb4 hbS hbn4
          have hcnt := count_set (l := been) (i := X) hblen Hbb.out
          have Hcnt := Lib.hid hcnt
          clear hcnt
          go_wp2_with fail
          go_roundg (1026 * (been.set X true).count false + ((todo ++ ofFn F (X : Int)).length - (k + 1)))
          case measure => have h1 := Hg.out; have h2 := Hcnt.out; have h3 := HlX.out; have h4 := HL8.out; simp only [List.length_append]; omega
          case rel => exact ⟨_, _, k + 1, ⟨rfl, by have h1 := Hg.out; have h2 := Hcnt.out; have h3 := HlX.out; have h4 := HL8.out; simp only [List.length_append]; omega⟩, by have h4 := HL8.out; simp only [List.length_append]; omega, by go_num, Hq.out.mark Hx.out Heq.out, H4.out.2.1, H4.out.1, H4.out.2.2, hs4⟩
        · rw [hbX] at hbc
          have Hbb := Lib.hid hbX
          clear hg hq hx hbn htd hb hL8 hbX
          go_wp2_with fail
          go_roundg (1026 * been.count false + (todo.length - (k + 1)))
          case measure => have h1 := Hg.out; have h4 := HL8.out; omega
          case rel => exact ⟨_, _, k + 1, ⟨rfl, Hg.out.2⟩, by have h4 := HL8.out; omega, by go_num, Hq.out.skip Hx.out Heq.out (by simpa using Hbb.out), Hs.out.1, Hs.out.2.1, Hs.out.2.2, hs⟩
    · have hdone := hq.done (by omega)
      have hform : ∃ a8 c8, u8 = .slice a8 todo.length c8 := by
        rcases htd.form with ⟨h, h2⟩ | ⟨g, c, h, _⟩
        · exact ⟨none, 0, by rw [h, h2]; rfl⟩
        · exact ⟨_, _, h⟩
      obtain ⟨a8, c8, rfl⟩ := hform
      have hkL : k = todo.length := by omega
      have Hd := Lib.hid (And.intro hdone hb)
      clear hg hq hbn htd hb hdone
      generalize todo.length = L8 at *
      subst hkL
      go_wp2_with fail
      go_ret
      exact ⟨false, rfl, ⟨fun h => (by cases h), fun h => absurd h Hd.out.1⟩, Hd.out.2⟩
end Go.Proofs.YtggkeodoenhmoaaDoor
