/- sorted: the members of a set, rising. -/
import Derived.Test.YtapjdndcnenadaaDoorMembers
namespace Go.Proofs.YtapjdndcnenadaaDoor
open Go.RowKit Go.Maps

/-- l tells those of S that are no longer left. -/
structure Got (S : List Int) (left : Lit → Bool) (l : List Int) : Prop where
  nodup : l.Nodup
  sub : ∀ x ∈ l, x ∈ S ∧ left (.int .i64 x) = false
  all : ∀ x ∈ S, left (.int .i64 x) = false → x ∈ l
theorem Got.start {S : List Int} {left : Lit → Bool} (h : ∀ y ∈ S, left (.int .i64 y) = true) : Got S left [] :=
  ⟨List.nodup_nil, fun x hx => absurd hx (by simp), fun x hx hl => by rw [h x hx] at hl; cases hl⟩
theorem strike_false_iff {left : Lit → Bool} {x y : Int} : (fun z : Lit => left z && !z.sameKey (.int .i64 x)) (.int .i64 y) = false ↔ left (.int .i64 y) = false ∨ y = x := by
  have h := strike_iff (left := left) (x := x) (y := y)
  constructor
  · intro hf
    rw [hf] at h
    cases hl : left (.int .i64 y)
    · exact .inl rfl
    · exact .inr (Classical.byContradiction fun hne => by simp at h; exact absurd (h hl) hne)
  · intro hf
    rw [Bool.eq_false_iff]
    intro ht
    obtain ⟨h1, h2⟩ := h.1 ht
    rcases hf with hf | hf
    · rw [hf] at h1; cases h1
    · exact h2 hf
theorem Got.next {S : List Int} {left : Lit → Bool} {l : List Int} {x : Int} (h : Got S left l) (hx : x ∈ S) (hl : left (.int .i64 x) = true) : Got S (fun z => left z && !z.sameKey (.int .i64 x)) (l ++ [x]) := by
  have hn : ¬ x ∈ l := fun hm => by have := (h.sub x hm).2; rw [hl] at this; cases this
  refine ⟨List.nodup_append.2 ⟨h.nodup, by simp, fun a ha b hb e => by simp at hb; subst hb; subst e; exact hn ha⟩, fun y hy => ?_, fun y hy hf => ?_⟩
  · rcases List.mem_append.1 hy with hy | hy
    · exact ⟨(h.sub y hy).1, strike_false_iff.2 (.inl (h.sub y hy).2)⟩
    · rw [List.mem_singleton.1 hy]; exact ⟨hx, strike_false_iff.2 (.inr rfl)⟩
  · rcases strike_false_iff.1 hf with hf | hf
    · exact List.mem_append.2 (.inl (h.all y hy hf))
    · exact List.mem_append.2 (.inr (by simp [hf]))
theorem Got.done {S : List Int} {left : Lit → Bool} {l : List Int} (h : Got S left l) (hl : ∀ kl, left kl = false) (hS : S.Nodup) : sortL l = sortL S :=
  sorted_ext _ _ (sortL_sorted l h.nodup) (sortL_sorted S hS) fun x => by
    rw [sortL_mem, sortL_mem]
    exact ⟨fun hx => (h.sub x hx).1, fun hx => h.all x hx (hl _)⟩
theorem Got.len {S : List Int} {left : Lit → Bool} {l : List Int} (h : Got S left l) : l.length ≤ S.length := nodup_subL l S h.nodup (fun x hx => (h.sub x hx).1)

set_option maxRecDepth 100000 in
set_option maxHeartbeats 2000000 in
theorem sorted_any (b : Nat) (S : List Int) (w : World) (hS : SetAt w b S) (hl : S.length ≤ 1000000) :
    Calls Tryd.prog 22 #[.map (some b)] w (RetInts (sortL S) w) := by
  have HS := Lib.hid hS
  have Hl := Lib.hid hl
  have hbw : b < w.heap.size := hS.lt
  clear hS hl
  go_enter Tryd.func22, Tryd.ntmps22
  go_wp2_with (at_range; refine set_range rfl _ rfl b S rfl HS.out ?_; intro w7 left cnt hrg hleft hg7 hs7)
  go_frame
  obtain ⟨r, hr⟩ : ∃ r, r = w.heap.size := ⟨_, rfl⟩
  rw [← hr] at hrg hs7 hbw ⊢
  have H7 := Lib.hid (And.intro hrg (And.intro hleft (And.intro hg7 (And.intro hs7 hr))))
  clear hrg hleft hg7 hs7 hr
  go_loopw [3] (fun v wi => ∃ (left : Lit → Bool) (cnt : Nat) (l : List Int), SRange wi b r S left cnt ∧ OwnInts wi (r + 1) v l ∧ Got S left l ∧ Below r w wi ∧ r + 1 ≤ wi.heap.size) (fun _ wi => wi.rangeLeft b r)
  case atStart =>
    obtain ⟨hrg, hleft, hg7, hs7, hr⟩ := H7.out
    exact ⟨left, cnt, [], hrg, World.ownsRow_nil _ _ _ _, Got.start hleft, (Below.refl r w).grown hg7 (by omega) (by intro k e; cases e), by omega⟩
  case round =>
    obtain ⟨left, cnt, l, hrg, hown, hgot, hb, hsz⟩ := hrel
    have hlen := hgot.len
    have Hrg := Lib.hid hrg
    have Hi := Lib.hid (And.intro hown (And.intro hgot hb))
    have Hlen := Lib.hid hlen
    clear hrg hown hgot hb hlen
    go_wp2_with (at_next; refine set_next rfl _ rfl b r S left cnt rfl Hrg.out ?_ ?_)
    · intro hl0
      have hsrt := Hi.out.2.1.done hl0 HS.out.nodup
      have Hsrt := Lib.hid hsrt
      have hll : l.length ≤ 1000000000000 := by have := Hlen.out; have := Hl.out; omega
      clear hl0 hsrt
      go_wp2_with fail
      refine (sortInts_any _ l (r + 1) _ Hi.out.1 hll).mono ?_
      rintro e w5 ⟨rfl, ho5, hg5⟩
      have h5 : Below w.heap.size w w5 := by
        rw [← H7.out.2.2.2.2]
        refine Hi.out.2.2.grown hg5 (by omega) (fun k e => ?_)
        have := (World.ownsRow.lt Hi.out.1 k e).1
        omega
      have H5 := Lib.hid (And.intro h5 ho5)
      clear h5 ho5 hg5
      go_wp2_with fail
      go_ret
      refine ⟨_, rfl, ?_, H5.out.1⟩
      rw [← Hsrt.out]
      exact ownsRow_mono H5.out.2 (by have := H7.out.2.2.2.2; omega)
    · intro x v w11 cnt' hxS hlx hrg11 hlt hg11 hs11 hen
      have hown11 : OwnInts w11 (r + 1) u3 l := Hi.out.1.kept hg11 (by
        cases hb : u3.ownBlock with
        | none => exact .inl rfl
        | some k => exact .inr (by intro e; have := Option.some.inj e; have := (World.ownsRow.lt Hi.out.1 k hb).1; omega))
      have hb11 : Below r w w11 := Hi.out.2.2.grown hg11 (by omega) (by intro k e; cases e; omega)
      have hgot11 := Hi.out.2.1.next hxS hlx
      have H11 := Lib.hid (And.intro hrg11 (And.intro hown11 (And.intro hb11 (And.intro hgot11 hlt))))
      have hsz11 : r + 1 ≤ w11.heap.size := by omega
      have hll : l.length ≤ 1000000000000 := by have := Hlen.out; have := Hl.out; omega
      clear hrg11 hown11 hb11 hgot11 hlt hg11 hs11 hlx hxS
      go_wp2_with (at_builtin; refine append_int rfl _ _ rfl (r + 1) _ l rfl H11.out.2.1 x rfl hll hsz11 ?_)
      intro v12 w12 ho12 hg12 hf12 hb12
      have hbB := hb12 (r + 1) w11 (Below.refl _ _) (Nat.le_refl _)
      have hrg12 : SRange w12 b r S (fun z => left z && !z.sameKey (.int .i64 x)) cnt' := by
        have h1 := H11.out.1.kept (World.grownBy_alloc w11 (.cells #[.int .i64 x] 3) none) (by simp) (by simp)
        refine h1.kept hg12 ?_ ?_
        · intro e; have := (World.ownsRow.lt H11.out.2.1 _ e.symm).1; omega
        · intro e; have := (World.ownsRow.lt H11.out.2.1 _ e.symm).1; omega
      have H12 := Lib.hid (And.intro hrg12 (And.intro ho12 (H11.out.2.2.1.trans (hbB.mono (by omega)))))
      have hs12 : r + 1 ≤ w12.heap.size := by have := hbB.size; omega
      clear hrg12 ho12 hbB hg12 hf12 hb12
      go_wp2_with fail
      go_roundw
      case rel => exact ⟨_, cnt', l ++ [x], H12.out.1, H12.out.2.1, H11.out.2.2.2.1, H12.out.2.2, hs12⟩
      case measure => rw [H12.out.1.left_eq, Hrg.out.left_eq]; exact H11.out.2.2.2.2
end Go.Proofs.YtapjdndcnenadaaDoor
