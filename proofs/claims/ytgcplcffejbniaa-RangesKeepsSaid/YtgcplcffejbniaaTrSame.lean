/- R2.Same, where both read as the same program. -/
import Derived.Test.YtgcplcffejbniaaTrCopyW
import Derived.Test.YtgcplcffejbniaaTrBig
import Derived.Test.YtgcplcffejbniaaTrRCheck
/- SameExprs, where both read as the same expressions. -/
namespace Go.Proofs.Ytgcplcffejbniaa
open Go.RowKit

def RSameE (w0 : World) (v v' : Value) : Prop := ∀ (W : World), Below w0.heap.size w0 W → Calls Try.prog 70 #[v, v'] W (Gives (.bool true) W)
set_option maxRecDepth 100000 in
set_option maxHeartbeats 4000000 in
theorem sameE_any (l : List Ex) (v : Value) (w0 : World) (h : ExsIn w0 l v) : ∀ v', ExsIn w0 l v' → RSameE w0 v v' := by
  induction h with
  | mk l v vs h each ih =>
  intro v' h' W hB
  cases h' with
  | mk _ _ vs' h' each' =>
  obtain ⟨a, cap, rfl, hncap, hcap⟩ := h.form
  obtain ⟨a', cap', rfl, hncap', hcap'⟩ := h'.form
  obtain ⟨n, hn⟩ : ∃ n, n = l.length := ⟨_, rfl⟩
  have Hn := Lib.hid hn
  have Hrow : Hid (RowOf w0 (.slice a n cap) l.length 4 (fun b o i => ∀ x, l[i]? = some x → ExAt w0 b o x (vs i))) := by rw [hn]; exact h
  have Hrow' : Hid (RowOf w0 (.slice a' n cap') l.length 4 (fun b o i => ∀ x, l[i]? = some x → ExAt w0 b o x (vs' i))) := by rw [hn]; exact h'
  have Hih := Lib.hid (And.intro ih (And.intro each each'))
  have HB := Lib.hid hB
  rw [← hn] at hncap hncap' ⊢
  have hn62 : n ≤ 9223372036854775807 := by have : maxLen ≤ 9223372036854775807 := by decide
                                            omega
  clear h h' each each' ih hn hB
  go_enter Try.func70, Try.ntmps70
  go_wp2_with fail
  go_loopg [5] n (fun gk iv wx => ∃ (i : Nat), gk = n - i ∧ iv = .int .i64 (i : Int) ∧ i ≤ n ∧ Below W.heap.size W wx)
  case atStart => exact ⟨0, rfl, rfl, Nat.zero_le _, Below.refl _ _⟩
  case round =>
    obtain ⟨i, hgk, rfl, hi, hbw⟩ := hrel
    have Hg := Lib.hid hgk
    have HBr : Hid (Below w0.heap.size w0 wr) := HB.out.trans (hbw.mono HB.out.size)
    have Hbw := Lib.hid hbw
    clear hgk hbw
    by_cases hin : i < n
    · obtain ⟨y, hy⟩ : ∃ y, l[i]? = some y := ⟨_, List.getElem?_eq_getElem (by rw [← Hn.out]; exact hin)⟩
      obtain ⟨b, off, rfl, hb, hP⟩ := Hrow.out.at (i := i) (by rw [← Hn.out]; exact hin)
      obtain ⟨b', off', rfl, hb', hP'⟩ := Hrow'.out.at (i := i) (by rw [← Hn.out]; exact hin)
      have he := (hP y hy).later HBr.out hb
      have he' := (hP' y hy).later HBr.out hb'
      obtain ⟨ay, cy, hvs, -⟩ := (Hih.out.2.1 i y hy).form
      obtain ⟨ay', cy', hvs', -⟩ := (Hih.out.2.2 i y hy).form
      have Hc : Hid (RSameE w0 (vs i) (vs' i)) := Hih.out.1 i y hy _ (Hih.out.2.2 i y hy)
      obtain ⟨ny, hny⟩ : ∃ n, n = y.args.length := ⟨_, rfl⟩
      rw [hvs, hvs', ← hny] at Hc
      rw [hvs, ← hny] at he
      rw [hvs', ← hny] at he'
      have hbr : b < wr.heap.size ∧ b' < wr.heap.size := by have := HBr.out.size; omega
      clear hP hP' hy hvs hvs' hny
      go_upto_region 6 with (fail)
      refine wp_region_held (S := Below wr.heap.size wr.drew) rfl ?_
      change wpAnyH _ _ _ _ (Below wr.heap.size wr.drew) _ _ _ wr.drew
      obtain ⟨W0, hW0⟩ : ∃ W0, W0 = wr.drew := ⟨_, rfl⟩
      rw [← hW0]
      have hb0 : Below wr.heap.size wr W0 := by rw [hW0]; exact (Below.refl _ _).drew
      have hs0 : wr.heap.size ≤ W0.heap.size := hb0.size
      have Hfc : Hid (∀ W, Below wr.heap.size W0 W → ExAt W b (off + i * 4) y (.slice ay ny cy) ∧ ExAt W b' (off' + i * 4) y (.slice ay' ny cy')) := fun W hb => ⟨he.later (hb0.trans hb) hbr.1, he'.later (hb0.trans hb) hbr.2⟩
      have Hb : Hid (Below wr.heap.size W0 W0) := Below.refl _ _
      have H0 := Lib.hid hb0
      clear hb0 hW0 he he'
      refine wpAnyH_take (i := 0) (by simp only [List.getElem?_toArray, List.getElem?_cons_zero]; rfl) (by kernel_rfl) (by kernel_rfl) (by kernel_rfl) (by intro _ _ _ h; exact h) (Or.inl ⟨by rfl, fun w hw => by (obtain ⟨⟨c0, c1, c2, c3⟩, d0, d1, d2, d3⟩ := Hfc.out w hw; go_simp; try rfl)⟩) Hb.out ?_
      refine wpAnyH_take (i := 1) (by simp only [List.getElem?_toArray, List.getElem?_cons_succ, List.getElem?_cons_zero]; rfl) (by kernel_rfl) (by kernel_rfl) (by kernel_rfl) (by intro _ _ _ h; exact h) (Or.inl ⟨by rfl, fun w hw => by (obtain ⟨⟨c0, c1, c2, c3⟩, d0, d1, d2, d3⟩ := Hfc.out w hw; go_simp; try rfl)⟩) Hb.out ?_
      go_frame
      refine wpAnyH_take (i := 2) (by simp only [List.getElem?_toArray, List.getElem?_cons_succ, List.getElem?_cons_zero]; rfl) (by kernel_rfl) (by kernel_rfl) (by kernel_rfl) (by intro _ _ _ h; exact h) (Or.inl ⟨by rfl, fun w hw => by (obtain ⟨⟨c0, c1, c2, c3⟩, d0, d1, d2, d3⟩ := Hfc.out w hw; go_simp; try rfl)⟩) Hb.out ?_
      refine wpAnyH_take (i := 3) (by simp only [List.getElem?_toArray, List.getElem?_cons_succ, List.getElem?_cons_zero]; rfl) (by kernel_rfl) (by kernel_rfl) (by kernel_rfl) (by intro _ _ _ h; exact h) (Or.inl ⟨by rfl, fun w hw => by (obtain ⟨⟨c0, c1, c2, c3⟩, d0, d1, d2, d3⟩ := Hfc.out w hw; go_simp; try rfl)⟩) Hb.out ?_
      go_frame
      refine wpAnyH_take (i := 4) (by simp only [List.getElem?_toArray, List.getElem?_cons_succ, List.getElem?_cons_zero]; rfl) (by kernel_rfl) (by kernel_rfl) (by kernel_rfl) (by intro _ _ _ h; exact h) (Or.inl ⟨by rfl, fun w hw => by (obtain ⟨⟨c0, c1, c2, c3⟩, d0, d1, d2, d3⟩ := Hfc.out w hw; go_simp; try rfl)⟩) Hb.out ?_
      refine wpAnyH_take (i := 5) (by simp only [List.getElem?_toArray, List.getElem?_cons_succ, List.getElem?_cons_zero]; rfl) (by kernel_rfl) (by kernel_rfl) (by kernel_rfl) (by intro _ _ _ h; exact h) (Or.inl ⟨by rfl, fun w hw => by (obtain ⟨⟨c0, c1, c2, c3⟩, d0, d1, d2, d3⟩ := Hfc.out w hw; go_simp; try rfl)⟩) Hb.out ?_
      go_frame
      refine wpAnyH_take (i := 6) (by simp only [List.getElem?_toArray, List.getElem?_cons_succ, List.getElem?_cons_zero]; rfl) (by kernel_rfl) (by kernel_rfl) (by kernel_rfl) (by intro _ _ _ h; exact h) (Or.inl ⟨by rfl, fun w hw => by (obtain ⟨⟨c0, c1, c2, c3⟩, d0, d1, d2, d3⟩ := Hfc.out w hw; go_simp; try rfl)⟩) Hb.out ?_
      refine wpAnyH_take (i := 7) (by simp only [List.getElem?_toArray, List.getElem?_cons_succ, List.getElem?_cons_zero]; rfl) (by kernel_rfl) (by kernel_rfl) (by kernel_rfl) (by intro _ _ _ h; exact h) (Or.inl ⟨by rfl, fun w hw => by (obtain ⟨⟨c0, c1, c2, c3⟩, d0, d1, d2, d3⟩ := Hfc.out w hw; go_simp; try rfl)⟩) Hb.out ?_
      go_frame
      refine wpAnyH_take (i := 8) (by simp only [List.getElem?_toArray, List.getElem?_cons_succ, List.getElem?_cons_zero]; rfl) (by kernel_rfl) (by kernel_rfl) (by kernel_rfl) (by intro _ _ _ h; exact h) (Or.inl ⟨by rfl, fun w hw => by (obtain ⟨⟨c0, c1, c2, c3⟩, d0, d1, d2, d3⟩ := Hfc.out w hw; go_simp; try rfl)⟩) Hb.out ?_
      refine wpAnyH_take (i := 9) (by simp only [List.getElem?_toArray, List.getElem?_cons_succ, List.getElem?_cons_zero]; rfl) (by kernel_rfl) (by kernel_rfl) (by kernel_rfl) (by intro _ _ _ h; exact h) (Or.inl ⟨by rfl, fun w hw => by (obtain ⟨⟨c0, c1, c2, c3⟩, d0, d1, d2, d3⟩ := Hfc.out w hw; go_simp; try rfl)⟩) Hb.out ?_
      go_frame
      refine wpAnyH_take (i := 10) (by simp only [List.getElem?_toArray, List.getElem?_cons_succ, List.getElem?_cons_zero]; rfl) (by kernel_rfl) (by kernel_rfl) (by kernel_rfl) (by intro _ _ _ h; exact h) (Or.inl ⟨by rfl, fun w hw => by (obtain ⟨⟨c0, c1, c2, c3⟩, d0, d1, d2, d3⟩ := Hfc.out w hw; go_simp; try rfl)⟩) Hb.out ?_
      refine wpAnyH_take (i := 11) (by simp only [List.getElem?_toArray, List.getElem?_cons_succ, List.getElem?_cons_zero]; rfl) (by kernel_rfl) (by kernel_rfl) (by kernel_rfl) (by intro _ _ _ h; exact h) (Or.inl ⟨by rfl, fun w hw => by (obtain ⟨⟨c0, c1, c2, c3⟩, d0, d1, d2, d3⟩ := Hfc.out w hw; go_simp; try rfl)⟩) Hb.out ?_
      go_frame
      refine wpAnyH_take (i := 12) (by simp only [List.getElem?_toArray, List.getElem?_cons_succ, List.getElem?_cons_zero]; rfl) (by kernel_rfl) (by kernel_rfl) (by kernel_rfl) (by intro _ _ _ h; exact h) (Or.inl ⟨by rfl, fun w hw => by (obtain ⟨⟨c0, c1, c2, c3⟩, d0, d1, d2, d3⟩ := Hfc.out w hw; go_simp; try rfl)⟩) Hb.out ?_
      refine wpAnyH_take (i := 13) (by simp only [List.getElem?_toArray, List.getElem?_cons_succ, List.getElem?_cons_zero]; rfl) (by kernel_rfl) (by kernel_rfl) (by kernel_rfl) (by intro _ _ _ h; exact h) (Or.inl ⟨by rfl, fun w hw => by (obtain ⟨⟨c0, c1, c2, c3⟩, d0, d1, d2, d3⟩ := Hfc.out w hw; go_simp; try rfl)⟩) Hb.out ?_
      go_frame
      refine wpAnyH_take (i := 14) (by simp only [List.getElem?_toArray, List.getElem?_cons_succ, List.getElem?_cons_zero]; rfl) (by kernel_rfl) (by kernel_rfl) (by kernel_rfl) (by intro _ _ _ h; exact h) (Or.inl ⟨by rfl, fun w hw => by (obtain ⟨⟨c0, c1, c2, c3⟩, d0, d1, d2, d3⟩ := Hfc.out w hw; go_simp; try rfl)⟩) Hb.out ?_
      refine wpAnyH_take (i := 15) (by simp only [List.getElem?_toArray, List.getElem?_cons_succ, List.getElem?_cons_zero]; rfl) (by kernel_rfl) (by kernel_rfl) (by kernel_rfl) (by intro _ _ _ h; exact h) (Or.inl ⟨by rfl, fun w hw => by (obtain ⟨⟨c0, c1, c2, c3⟩, d0, d1, d2, d3⟩ := Hfc.out w hw; go_simp; try rfl)⟩) Hb.out ?_
      go_frame
      refine wpAnyH_take (i := 16) (by simp only [List.getElem?_toArray, List.getElem?_cons_succ, List.getElem?_cons_zero]; rfl) (by kernel_rfl) (by kernel_rfl) (by kernel_rfl) (by intro _ _ _ h; exact h) (Or.inl ⟨by rfl, fun w hw => by (obtain ⟨⟨c0, c1, c2, c3⟩, d0, d1, d2, d3⟩ := Hfc.out w hw; go_simp; try rfl)⟩) Hb.out ?_
      refine wpAnyH_take (i := 17) (by simp only [List.getElem?_toArray, List.getElem?_cons_succ, List.getElem?_cons_zero]; rfl) (by kernel_rfl) (by kernel_rfl) (by kernel_rfl) (by intro _ _ _ h; exact h) (Or.inl ⟨by rfl, fun w hw => by (obtain ⟨⟨c0, c1, c2, c3⟩, d0, d1, d2, d3⟩ := Hfc.out w hw; go_simp; try rfl)⟩) Hb.out ?_
      go_frame
      refine wpAnyH_take (i := 18) (by simp only [List.getElem?_toArray, List.getElem?_cons_succ, List.getElem?_cons_zero]; rfl) (by kernel_rfl) (by kernel_rfl) (by kernel_rfl) (by intro _ _ _ h; exact h) (Or.inl ⟨by rfl, fun w hw => by (obtain ⟨⟨c0, c1, c2, c3⟩, d0, d1, d2, d3⟩ := Hfc.out w hw; go_simp; try rfl)⟩) Hb.out ?_
      refine wpAnyH_take (i := 19) (by simp only [List.getElem?_toArray, List.getElem?_cons_succ, List.getElem?_cons_zero]; rfl) (by kernel_rfl) (by kernel_rfl) (by kernel_rfl) (by intro _ _ _ h; exact h) (Or.inl ⟨by rfl, fun w hw => by (obtain ⟨⟨c0, c1, c2, c3⟩, d0, d1, d2, d3⟩ := Hfc.out w hw; go_simp; try rfl)⟩) Hb.out ?_
      go_frame
      refine wpAnyH_take (i := 20) (by simp only [List.getElem?_toArray, List.getElem?_cons_succ, List.getElem?_cons_zero]; rfl) (by kernel_rfl) (by kernel_rfl) (by kernel_rfl) (by intro _ _ _ h; exact h) (Or.inl ⟨by rfl, fun w hw => by (obtain ⟨⟨c0, c1, c2, c3⟩, d0, d1, d2, d3⟩ := Hfc.out w hw; go_simp; try rfl)⟩) Hb.out ?_
      refine wpAnyH_take (i := 21) (by simp only [List.getElem?_toArray, List.getElem?_cons_succ, List.getElem?_cons_zero]; rfl) (by kernel_rfl) (by kernel_rfl) (by kernel_rfl) (by intro _ _ _ h; exact h) (Or.inl ⟨by rfl, fun w hw => by (obtain ⟨⟨c0, c1, c2, c3⟩, d0, d1, d2, d3⟩ := Hfc.out w hw; go_simp; try rfl)⟩) Hb.out ?_
      go_frame
      refine wpAnyH_take (i := 22) (by simp only [List.getElem?_toArray, List.getElem?_cons_succ, List.getElem?_cons_zero]; rfl) (by kernel_rfl) (by kernel_rfl) (by kernel_rfl) (by intro _ _ _ h; exact h) (Or.inl ⟨by rfl, fun w hw => by (obtain ⟨⟨c0, c1, c2, c3⟩, d0, d1, d2, d3⟩ := Hfc.out w hw; go_simp; try rfl)⟩) Hb.out ?_
      refine wpAnyH_take (i := 23) (by simp only [List.getElem?_toArray, List.getElem?_cons_succ, List.getElem?_cons_zero]; rfl) (by kernel_rfl) (by kernel_rfl) (by kernel_rfl) (by intro _ _ _ h; exact h) (Or.inl ⟨by rfl, fun w hw => by (obtain ⟨⟨c0, c1, c2, c3⟩, d0, d1, d2, d3⟩ := Hfc.out w hw; go_simp; try rfl)⟩) Hb.out ?_
      go_frame
      refine wpAnyH_take (i := 24) (by simp only [List.getElem?_toArray, List.getElem?_cons_succ, List.getElem?_cons_zero]; rfl) (by kernel_rfl) (by kernel_rfl) (by kernel_rfl) (by intro _ _ _ h; exact h) (Or.inl ⟨by rfl, fun w hw => by (obtain ⟨⟨c0, c1, c2, c3⟩, d0, d1, d2, d3⟩ := Hfc.out w hw; go_simp; try rfl)⟩) Hb.out ?_
      refine wpAnyH_take (i := 25) (by simp only [List.getElem?_toArray, List.getElem?_cons_succ, List.getElem?_cons_zero]; rfl) (by kernel_rfl) (by kernel_rfl) (by kernel_rfl) (by intro _ _ _ h; exact h) (Or.inl ⟨by rfl, fun w hw => by (obtain ⟨⟨c0, c1, c2, c3⟩, d0, d1, d2, d3⟩ := Hfc.out w hw; go_simp; try rfl)⟩) Hb.out ?_
      go_frame
      refine wpAnyH_take (i := 26) (by simp only [List.getElem?_toArray, List.getElem?_cons_succ, List.getElem?_cons_zero]; rfl) (by kernel_rfl) (by kernel_rfl) (by kernel_rfl) (by intro _ _ _ h; exact h) (Or.inl ⟨by rfl, fun w hw => by (obtain ⟨⟨c0, c1, c2, c3⟩, d0, d1, d2, d3⟩ := Hfc.out w hw; go_simp; try rfl)⟩) Hb.out ?_
      refine wpAnyH_take (i := 27) (by simp only [List.getElem?_toArray, List.getElem?_cons_succ, List.getElem?_cons_zero]; rfl) (by kernel_rfl) (by kernel_rfl) (by kernel_rfl) (by intro _ _ _ h; exact h) (Or.inl ⟨by rfl, fun w hw => by (obtain ⟨⟨c0, c1, c2, c3⟩, d0, d1, d2, d3⟩ := Hfc.out w hw; go_simp; try rfl)⟩) Hb.out ?_
      go_frame
      refine wpAnyH_take (i := 28) (by simp only [List.getElem?_toArray, List.getElem?_cons_succ, List.getElem?_cons_zero]; rfl) (by kernel_rfl) (by kernel_rfl) (by kernel_rfl) (by intro _ _ _ h; exact h) (Or.inl ⟨by rfl, fun w hw => by (obtain ⟨⟨c0, c1, c2, c3⟩, d0, d1, d2, d3⟩ := Hfc.out w hw; go_simp; try rfl)⟩) Hb.out ?_
      refine wpAnyH_take (i := 29) (by simp only [List.getElem?_toArray, List.getElem?_cons_succ, List.getElem?_cons_zero]; rfl) (by kernel_rfl) (by kernel_rfl) (by kernel_rfl) (by intro _ _ _ h; exact h) (Or.inl ⟨by rfl, fun w hw => by (obtain ⟨⟨c0, c1, c2, c3⟩, d0, d1, d2, d3⟩ := Hfc.out w hw; go_simp; try rfl)⟩) Hb.out ?_
      go_frame
      refine wpAnyH_take (i := 30) (by simp only [List.getElem?_toArray, List.getElem?_cons_succ, List.getElem?_cons_zero]; rfl) (by kernel_rfl) (by kernel_rfl) (by kernel_rfl) (by intro _ _ _ h; exact h) (Or.inl ⟨by rfl, fun w hw => by (obtain ⟨⟨c0, c1, c2, c3⟩, d0, d1, d2, d3⟩ := Hfc.out w hw; go_simp; try rfl)⟩) Hb.out ?_
      refine wpAnyH_take (i := 31) (by simp only [List.getElem?_toArray, List.getElem?_cons_succ, List.getElem?_cons_zero]; rfl) (by kernel_rfl) (by kernel_rfl) (by kernel_rfl) (by intro _ _ _ h; exact h) (Or.inl ⟨by rfl, fun w hw => by (obtain ⟨⟨c0, c1, c2, c3⟩, d0, d1, d2, d3⟩ := Hfc.out w hw; go_simp; try rfl)⟩) Hb.out ?_
      go_frame
      refine wpAnyH_take (i := 32) (by simp only [List.getElem?_toArray, List.getElem?_cons_succ, List.getElem?_cons_zero]; rfl) (by kernel_rfl) (by kernel_rfl) (by kernel_rfl) (by intro _ _ _ h; exact h) (Or.inl ⟨by rfl, fun w hw => by (obtain ⟨⟨c0, c1, c2, c3⟩, d0, d1, d2, d3⟩ := Hfc.out w hw; go_simp; try rfl)⟩) Hb.out ?_
      refine wpAnyH_take (i := 33) (by simp only [List.getElem?_toArray, List.getElem?_cons_succ, List.getElem?_cons_zero]; rfl) (by kernel_rfl) (by kernel_rfl) (by kernel_rfl) (by intro _ _ _ h; exact h) (Or.inl ⟨by rfl, fun w hw => by (obtain ⟨⟨c0, c1, c2, c3⟩, d0, d1, d2, d3⟩ := Hfc.out w hw; go_simp; try rfl)⟩) Hb.out ?_
      go_frame
      refine wpAnyH_take (i := 34) (by simp only [List.getElem?_toArray, List.getElem?_cons_succ, List.getElem?_cons_zero]; rfl) (by kernel_rfl) (by kernel_rfl) (by kernel_rfl) (by intro _ _ _ h; exact h) (Or.inl ⟨by rfl, fun w hw => by (obtain ⟨⟨c0, c1, c2, c3⟩, d0, d1, d2, d3⟩ := Hfc.out w hw; go_simp; try rfl)⟩) Hb.out ?_
      refine wpAnyH_take (i := 35) (by simp only [List.getElem?_toArray, List.getElem?_cons_succ, List.getElem?_cons_zero]; rfl) (by kernel_rfl) (by kernel_rfl) (by kernel_rfl) (by intro _ _ _ h; exact h) (Or.inl ⟨by rfl, fun w hw => by (obtain ⟨⟨c0, c1, c2, c3⟩, d0, d1, d2, d3⟩ := Hfc.out w hw; go_simp; try rfl)⟩) Hb.out ?_
      go_frame
      refine wpAnyH_take (i := 36) (by simp only [List.getElem?_toArray, List.getElem?_cons_succ, List.getElem?_cons_zero]; rfl) (by kernel_rfl) (by kernel_rfl) (by kernel_rfl) (by intro _ _ _ h; exact h) (Or.inl ⟨by rfl, fun w hw => by (obtain ⟨⟨c0, c1, c2, c3⟩, d0, d1, d2, d3⟩ := Hfc.out w hw; go_simp; try rfl)⟩) Hb.out ?_
      refine wpAnyH_take (i := 37) (by simp only [List.getElem?_toArray, List.getElem?_cons_succ, List.getElem?_cons_zero]; rfl) (by kernel_rfl) (by kernel_rfl) (by kernel_rfl) (by intro _ _ _ h; exact h) (Or.inl ⟨by rfl, fun w hw => by (obtain ⟨⟨c0, c1, c2, c3⟩, d0, d1, d2, d3⟩ := Hfc.out w hw; go_simp; try rfl)⟩) Hb.out ?_
      go_frame
      refine wpAnyH_take (i := 38) (by simp only [List.getElem?_toArray, List.getElem?_cons_succ, List.getElem?_cons_zero]; rfl) (by kernel_rfl) (by kernel_rfl) (by kernel_rfl) (by intro _ _ _ h; exact h) (Or.inl ⟨by rfl, fun w hw => by (obtain ⟨⟨c0, c1, c2, c3⟩, d0, d1, d2, d3⟩ := Hfc.out w hw; go_simp; try rfl)⟩) Hb.out ?_
      refine wpAnyH_take (i := 39) (by simp only [List.getElem?_toArray, List.getElem?_cons_succ, List.getElem?_cons_zero]; rfl) (by kernel_rfl) (by kernel_rfl) (by kernel_rfl) (by intro _ _ _ h; exact h) (Or.inl ⟨by rfl, fun w hw => by (obtain ⟨⟨c0, c1, c2, c3⟩, d0, d1, d2, d3⟩ := Hfc.out w hw; go_simp; try rfl)⟩) Hb.out ?_
      go_frame
      refine wpAnyH_take (i := 40) (by simp only [List.getElem?_toArray, List.getElem?_cons_succ, List.getElem?_cons_zero]; rfl) (by kernel_rfl) (by kernel_rfl) (by kernel_rfl) (by intro _ _ _ h; exact h) (Or.inl ⟨by rfl, fun w hw => by (obtain ⟨⟨c0, c1, c2, c3⟩, d0, d1, d2, d3⟩ := Hfc.out w hw; go_simp; try rfl)⟩) Hb.out ?_
      refine wpAnyH_take (i := 41) (by simp only [List.getElem?_toArray, List.getElem?_cons_succ, List.getElem?_cons_zero]; rfl) (by kernel_rfl) (by kernel_rfl) (by kernel_rfl) (by intro _ _ _ h; exact h) (Or.inl ⟨by rfl, fun w hw => by (obtain ⟨⟨c0, c1, c2, c3⟩, d0, d1, d2, d3⟩ := Hfc.out w hw; go_simp; try rfl)⟩) Hb.out ?_
      go_frame
      refine wpAnyH_take (i := 42) (by simp only [List.getElem?_toArray, List.getElem?_cons_succ, List.getElem?_cons_zero]; rfl) (by kernel_rfl) (by kernel_rfl) (by kernel_rfl) (by intro _ _ _ h; exact h) (Or.inl ⟨by rfl, fun w hw => by (obtain ⟨⟨c0, c1, c2, c3⟩, d0, d1, d2, d3⟩ := Hfc.out w hw; go_simp; try rfl)⟩) Hb.out ?_
      refine wpAnyH_take (i := 43) (by simp only [List.getElem?_toArray, List.getElem?_cons_succ, List.getElem?_cons_zero]; rfl) (by kernel_rfl) (by kernel_rfl) (by kernel_rfl) (by intro _ _ _ h; exact h) (Or.inl ⟨by rfl, fun w hw => by (obtain ⟨⟨c0, c1, c2, c3⟩, d0, d1, d2, d3⟩ := Hfc.out w hw; go_simp; try rfl)⟩) Hb.out ?_
      go_frame
      refine wpAnyH_take (i := 44) (by simp only [List.getElem?_toArray, List.getElem?_cons_succ, List.getElem?_cons_zero]; rfl) (by kernel_rfl) (by kernel_rfl) (by kernel_rfl) (by intro _ _ _ h; exact h) (Or.inl ⟨by rfl, fun w hw => by (obtain ⟨⟨c0, c1, c2, c3⟩, d0, d1, d2, d3⟩ := Hfc.out w hw; go_simp; try rfl)⟩) Hb.out ?_
      refine wpAnyH_take (i := 45) (by simp only [List.getElem?_toArray, List.getElem?_cons_succ, List.getElem?_cons_zero]; rfl) (by kernel_rfl) (by kernel_rfl) (by kernel_rfl) (by intro _ _ _ h; exact h) (Or.inl ⟨by rfl, fun w hw => by (obtain ⟨⟨c0, c1, c2, c3⟩, d0, d1, d2, d3⟩ := Hfc.out w hw; go_simp; try rfl)⟩) Hb.out ?_
      go_frame
      refine wpAnyH_take (i := 46) (by simp only [List.getElem?_toArray, List.getElem?_cons_succ, List.getElem?_cons_zero]; rfl) (by kernel_rfl) (by kernel_rfl) (by kernel_rfl) (by intro _ _ _ h; exact h) (Or.inl ⟨by rfl, fun w hw => by (obtain ⟨⟨c0, c1, c2, c3⟩, d0, d1, d2, d3⟩ := Hfc.out w hw; go_simp; try rfl)⟩) Hb.out ?_
      refine wpAnyH_take (i := 47) (by simp only [List.getElem?_toArray, List.getElem?_cons_succ, List.getElem?_cons_zero]; rfl) (by kernel_rfl) (by kernel_rfl) (by kernel_rfl) (by intro _ _ _ h; exact h) (Or.inl ⟨by rfl, fun w hw => by (obtain ⟨⟨c0, c1, c2, c3⟩, d0, d1, d2, d3⟩ := Hfc.out w hw; go_simp; try rfl)⟩) Hb.out ?_
      go_frame
      refine wpAnyH_ready (rs := [48]) (by kernel_rfl) (by simp) ?_
      refine AllReadyH.cons rfl (fun K hK => ?_) AllReadyH.nil
      go_simp
      refine (Hc.out W0 (HBr.out.trans (H0.out.mono HBr.out.size))).mono ?_
      rintro E w5 ⟨rfl, hb5⟩
      have Hb5 : Hid (Below wr.heap.size W0 w5) := hb5.mono hs0
      refine hK.out _ _ Hb5.out (fun _ => ?_)
      clear hK K hb5
      refine wpAnyH_take (i := 49) (by simp only [List.getElem?_toArray, List.getElem?_cons_succ, List.getElem?_cons_zero]; rfl) (by kernel_rfl) (by kernel_rfl) (by kernel_rfl) (by intro _ _ _ h; exact h) (Or.inl ⟨by rfl, fun w hw => by (skip; go_simp; try rfl)⟩) Hb5.out ?_
      go_frame
      refine wpAnyH_take (i := 50) (by simp only [List.getElem?_toArray, List.getElem?_cons_succ, List.getElem?_cons_zero]; rfl) (by kernel_rfl) (by kernel_rfl) (by kernel_rfl) (by intro _ _ _ h; exact h) (Or.inl ⟨by rfl, fun w hw => by (skip; go_simp; try rfl)⟩) Hb5.out ?_
      go_frame
      refine wpAnyH_done (by kernel_rfl) ?_ _
      go_wp2_with fail
      go_roundg (n - (i + 1))
      case measure => have := Hg.out; omega
      case rel => exact ⟨i + 1, rfl, by go_num, hin, Hbw.out.trans ((H0.out.trans Hb5.out).mono Hbw.out.size)⟩
    · obtain rfl : n = i := by omega
      go_wp2_with fail
      go_ret
      exact ⟨rfl, Hbw.out⟩
end Go.Proofs.Ytgcplcffejbniaa

/- Blocks known by their cells, for a region that makes two boxes in an order of its own. -/
namespace Go.Proofs.Ytgcplcffejbniaa
open Go.RowKit

structure RowAt (B : Nat) (w : World) (D : Nat) (vs : List Value) : Prop where
  lo : B ≤ D
  lt : D < w.heap.size
  cell : ∀ j v, vs[j]? = some v → w.cell? ⟨D, j, none⟩ = some v
  free : ∀ j, w.frozen? ⟨D, j, none⟩ = false
theorem RowAt.new {B : Nat} {w : World} (hB : B ≤ w.heap.size) (vs : List Value) (T : TypeId) : RowAt B (w.alloc (.cells vs.toArray T)) w.heap.size vs :=
  ⟨hB, by simp, fun j v hv => by rw [World.cell?_alloc_at _ _ _ _ rfl]; simpa using hv, fun j => World.frozen?_alloc_at _ _ _ _ rfl⟩
theorem RowAt.later {B : Nat} {w w' : World} {D : Nat} {vs : List Value} (h : RowAt B w D vs) {C : Nat} (hb : Below C w w') (hC : D < C) : RowAt B w' D vs :=
  ⟨h.lo, Nat.lt_of_lt_of_le h.lt hb.size, fun j v hv => (hb.cell (p := ⟨D, j, none⟩) hC).trans (h.cell j v hv), fun j => (hb.frozen (p := ⟨D, j, none⟩) hC).trans (h.free j)⟩
theorem RowAt.alloc {B : Nat} {w : World} {D : Nat} {vs : List Value} (h : RowAt B w D vs) (o : Obj) : RowAt B (w.alloc o) D vs := h.later ((Below.refl w.heap.size w).alloc (Nat.le_refl _) o) h.lt
theorem size_cells (D : Nat) (vs : List Value) (o : Nat) (w : World) : (w.setCells D o vs).heap.size = w.heap.size := by
  induction vs generalizing o w with
  | nil => rfl
  | cons v l ih => show ((w.setCell _ v).setCells D (o + 1) l).heap.size = _; rw [ih, size_set]
theorem below_cells {B D : Nat} {a : World} (hD : B ≤ D) (vs : List Value) (o : Nat) (w : World) (h : Below B a w) : Below B a (w.setCells D o vs) := by
  induction vs generalizing o w with
  | nil => exact h
  | cons v l ih => exact ih _ _ (h.setCell hD v)
theorem RowAt.put {B : Nat} {w : World} {D : Nat} {zs : List Value} (h : RowAt B w D zs) (vs : List Value) (hl : vs.length = zs.length) : RowAt B (w.setCells D 0 vs) D vs := by
  refine ⟨h.lo, by rw [size_cells]; exact h.lt, fun j v hv => ?_, fun j => by rw [World.frozen?_setCells]; exact h.free j⟩
  obtain ⟨hj, rfl⟩ := List.getElem?_eq_some_iff.1 hv
  have := World.cell?_setCells_in D vs 0 w (fun j hj => by
    rw [Nat.zero_add, h.cell j _ (List.getElem?_eq_getElem (show j < zs.length by omega))]; rfl) j hj
  rwa [Nat.zero_add] at this
theorem RowAt.other {B : Nat} {w : World} {D E : Nat} {vs : List Value} (h : RowAt B w D vs) (hne : D ≠ E) (us : List Value) : RowAt B (w.setCells E 0 us) D vs :=
  ⟨h.lo, by rw [size_cells]; exact h.lt, fun j v hv => by
    rw [World.cell?_setCells_out _ _ _ _ _ (fun e _ => absurd e hne)]; exact h.cell j v hv, fun j => by rw [World.frozen?_setCells]; exact h.free j⟩
end Go.Proofs.Ytgcplcffejbniaa

/- SameStmts, sameCases: where both read as the same statements. -/
namespace Go.Proofs.Ytgcplcffejbniaa
open Go.RowKit

theorem RowAt.stAt {B : Nat} {w : World} {D : Nat} {x : St} {va vb vd ve vc : Value} (h : RowAt B w D (stVs x va vb vd ve vc)) : StAt w D 0 x va vb vd ve vc := by
  have k := h.cell
  constructor <;> (first | (rw [Nat.zero_add]; exact k _ _ rfl) | exact k _ _ rfl)
def RSameS (w0 : World) (v v' : Value) : Prop := ∀ (W : World), Below w0.heap.size w0 W → Calls Try.prog 43 #[v, v'] W (Gives (.bool true) W)
set_option maxRecDepth 100000 in
set_option maxHeartbeats 4000000 in
theorem sameC_row (l : List Cs) (v v' : Value) (vk vk' : Nat → Value) (w0 : World) (h : RowOf w0 v l.length 2 (fun b o k => ∀ y, l[k]? = some y → CsAt w0 b o y (vk k))) (h' : RowOf w0 v' l.length 2 (fun b o k => ∀ y, l[k]? = some y → CsAt w0 b o y (vk' k)))
    (each : ∀ (k : Nat) y, l[k]? = some y → StsIn w0 y.body (vk k) ∧ StsIn w0 y.body (vk' k) ∧ RSameS w0 (vk k) (vk' k)) (W : World) (hB : Below w0.heap.size w0 W) : Calls Try.prog 71 #[v, v'] W (Gives (.bool true) W) := by
  obtain ⟨a, cap, rfl, hncap, hcap⟩ := h.form
  obtain ⟨a', cap', rfl, hncap', hcap'⟩ := h'.form
  obtain ⟨n, hn⟩ : ∃ n, n = l.length := ⟨_, rfl⟩
  have Hn := Lib.hid hn
  have Hrow : Hid (RowOf w0 (.slice a n cap) l.length 2 (fun b o i => ∀ x, l[i]? = some x → CsAt w0 b o x (vk i))) := by rw [hn]; exact h
  have Hrow' : Hid (RowOf w0 (.slice a' n cap') l.length 2 (fun b o i => ∀ x, l[i]? = some x → CsAt w0 b o x (vk' i))) := by rw [hn]; exact h'
  have Hih := Lib.hid each
  have HB := Lib.hid hB
  rw [← hn] at hncap hncap' ⊢
  have hn62 : n ≤ 9223372036854775807 := by have : maxLen ≤ 9223372036854775807 := by decide
                                            omega
  clear h h' each hn hB
  go_enter Try.func71, Try.ntmps71
  go_wp2_with fail
  go_loopg [5] n (fun gk iv wx => ∃ (i : Nat), gk = n - i ∧ iv = .int .i64 (i : Int) ∧ i ≤ n ∧ Below W.heap.size W wx)
  case atStart => exact ⟨0, rfl, rfl, Nat.zero_le _, Below.refl _ _⟩
  case round =>
    obtain ⟨i, hgk, rfl, hi, hbw⟩ := hrel
    have Hg := Lib.hid hgk
    have HBr : Hid (Below w0.heap.size w0 wr) := HB.out.trans (hbw.mono HB.out.size)
    have Hbw := Lib.hid hbw
    clear hgk hbw
    by_cases hin : i < n
    · obtain ⟨y, hy⟩ : ∃ y, l[i]? = some y := ⟨_, List.getElem?_eq_getElem (by rw [← Hn.out]; exact hin)⟩
      obtain ⟨b, off, rfl, hb, hP⟩ := Hrow.out.at (i := i) (by rw [← Hn.out]; exact hin)
      obtain ⟨b', off', rfl, hb', hP'⟩ := Hrow'.out.at (i := i) (by rw [← Hn.out]; exact hin)
      have he := (hP y hy).later HBr.out hb
      have he' := (hP' y hy).later HBr.out hb'
      obtain ⟨ay, cy, hvs, -⟩ := (Hih.out i y hy).1.form
      obtain ⟨ay', cy', hvs', -⟩ := (Hih.out i y hy).2.1.form
      have Hc : Hid (RSameS w0 (vk i) (vk' i)) := (Hih.out i y hy).2.2
      obtain ⟨ny, hny⟩ : ∃ n, n = y.body.length := ⟨_, rfl⟩
      rw [hvs, hvs', ← hny] at Hc
      rw [hvs, ← hny] at he
      rw [hvs', ← hny] at he'
      have hbr : b < wr.heap.size ∧ b' < wr.heap.size := by have := HBr.out.size; omega
      clear hP hP' hy hvs hvs' hny
      go_upto_region 6 with (fail)
      refine wp_region_held (S := Below wr.heap.size wr.drew) rfl ?_
      change wpAnyH _ _ _ _ (Below wr.heap.size wr.drew) _ _ _ wr.drew
      obtain ⟨W0, hW0⟩ : ∃ W0, W0 = wr.drew := ⟨_, rfl⟩
      rw [← hW0]
      have hb0 : Below wr.heap.size wr W0 := by rw [hW0]; exact (Below.refl _ _).drew
      have hs0 : wr.heap.size ≤ W0.heap.size := hb0.size
      have Hfc : Hid (∀ W, Below wr.heap.size W0 W → CsAt W b (off + i * 2) y (.slice ay ny cy) ∧ CsAt W b' (off' + i * 2) y (.slice ay' ny cy')) := fun W hb => ⟨he.later (hb0.trans hb) hbr.1, he'.later (hb0.trans hb) hbr.2⟩
      have Hb : Hid (Below wr.heap.size W0 W0) := Below.refl _ _
      have H0 := Lib.hid hb0
      clear hb0 hW0 he he'
      refine wpAnyH_take (i := 0) (by simp only [List.getElem?_toArray, List.getElem?_cons_zero]; rfl) (by kernel_rfl) (by kernel_rfl) (by kernel_rfl) (by intro _ _ _ h; exact h) (Or.inl ⟨by rfl, fun w hw => by (obtain ⟨⟨c0, c1⟩, d0, d1⟩ := Hfc.out w hw; go_simp; try rfl)⟩) Hb.out ?_
      refine wpAnyH_take (i := 1) (by simp only [List.getElem?_toArray, List.getElem?_cons_succ, List.getElem?_cons_zero]; rfl) (by kernel_rfl) (by kernel_rfl) (by kernel_rfl) (by intro _ _ _ h; exact h) (Or.inl ⟨by rfl, fun w hw => by (obtain ⟨⟨c0, c1⟩, d0, d1⟩ := Hfc.out w hw; go_simp; try rfl)⟩) Hb.out ?_
      go_frame
      refine wpAnyH_take (i := 2) (by simp only [List.getElem?_toArray, List.getElem?_cons_succ, List.getElem?_cons_zero]; rfl) (by kernel_rfl) (by kernel_rfl) (by kernel_rfl) (by intro _ _ _ h; exact h) (Or.inl ⟨by rfl, fun w hw => by (obtain ⟨⟨c0, c1⟩, d0, d1⟩ := Hfc.out w hw; go_simp; try rfl)⟩) Hb.out ?_
      refine wpAnyH_take (i := 3) (by simp only [List.getElem?_toArray, List.getElem?_cons_succ, List.getElem?_cons_zero]; rfl) (by kernel_rfl) (by kernel_rfl) (by kernel_rfl) (by intro _ _ _ h; exact h) (Or.inl ⟨by rfl, fun w hw => by (obtain ⟨⟨c0, c1⟩, d0, d1⟩ := Hfc.out w hw; go_simp; try rfl)⟩) Hb.out ?_
      go_frame
      refine wpAnyH_take (i := 4) (by simp only [List.getElem?_toArray, List.getElem?_cons_succ, List.getElem?_cons_zero]; rfl) (by kernel_rfl) (by kernel_rfl) (by kernel_rfl) (by intro _ _ _ h; exact h) (Or.inl ⟨by rfl, fun w hw => by (obtain ⟨⟨c0, c1⟩, d0, d1⟩ := Hfc.out w hw; go_simp; try rfl)⟩) Hb.out ?_
      refine wpAnyH_take (i := 5) (by simp only [List.getElem?_toArray, List.getElem?_cons_succ, List.getElem?_cons_zero]; rfl) (by kernel_rfl) (by kernel_rfl) (by kernel_rfl) (by intro _ _ _ h; exact h) (Or.inl ⟨by rfl, fun w hw => by (obtain ⟨⟨c0, c1⟩, d0, d1⟩ := Hfc.out w hw; go_simp; try rfl)⟩) Hb.out ?_
      go_frame
      refine wpAnyH_take (i := 6) (by simp only [List.getElem?_toArray, List.getElem?_cons_succ, List.getElem?_cons_zero]; rfl) (by kernel_rfl) (by kernel_rfl) (by kernel_rfl) (by intro _ _ _ h; exact h) (Or.inl ⟨by rfl, fun w hw => by (obtain ⟨⟨c0, c1⟩, d0, d1⟩ := Hfc.out w hw; go_simp; try rfl)⟩) Hb.out ?_
      refine wpAnyH_take (i := 7) (by simp only [List.getElem?_toArray, List.getElem?_cons_succ, List.getElem?_cons_zero]; rfl) (by kernel_rfl) (by kernel_rfl) (by kernel_rfl) (by intro _ _ _ h; exact h) (Or.inl ⟨by rfl, fun w hw => by (obtain ⟨⟨c0, c1⟩, d0, d1⟩ := Hfc.out w hw; go_simp; try rfl)⟩) Hb.out ?_
      go_frame
      refine wpAnyH_take (i := 8) (by simp only [List.getElem?_toArray, List.getElem?_cons_succ, List.getElem?_cons_zero]; rfl) (by kernel_rfl) (by kernel_rfl) (by kernel_rfl) (by intro _ _ _ h; exact h) (Or.inl ⟨by rfl, fun w hw => by (obtain ⟨⟨c0, c1⟩, d0, d1⟩ := Hfc.out w hw; go_simp; try rfl)⟩) Hb.out ?_
      refine wpAnyH_take (i := 9) (by simp only [List.getElem?_toArray, List.getElem?_cons_succ, List.getElem?_cons_zero]; rfl) (by kernel_rfl) (by kernel_rfl) (by kernel_rfl) (by intro _ _ _ h; exact h) (Or.inl ⟨by rfl, fun w hw => by (obtain ⟨⟨c0, c1⟩, d0, d1⟩ := Hfc.out w hw; go_simp; try rfl)⟩) Hb.out ?_
      go_frame
      refine wpAnyH_take (i := 10) (by simp only [List.getElem?_toArray, List.getElem?_cons_succ, List.getElem?_cons_zero]; rfl) (by kernel_rfl) (by kernel_rfl) (by kernel_rfl) (by intro _ _ _ h; exact h) (Or.inl ⟨by rfl, fun w hw => by (obtain ⟨⟨c0, c1⟩, d0, d1⟩ := Hfc.out w hw; go_simp; try rfl)⟩) Hb.out ?_
      refine wpAnyH_take (i := 11) (by simp only [List.getElem?_toArray, List.getElem?_cons_succ, List.getElem?_cons_zero]; rfl) (by kernel_rfl) (by kernel_rfl) (by kernel_rfl) (by intro _ _ _ h; exact h) (Or.inl ⟨by rfl, fun w hw => by (obtain ⟨⟨c0, c1⟩, d0, d1⟩ := Hfc.out w hw; go_simp; try rfl)⟩) Hb.out ?_
      go_frame
      refine wpAnyH_take (i := 12) (by simp only [List.getElem?_toArray, List.getElem?_cons_succ, List.getElem?_cons_zero]; rfl) (by kernel_rfl) (by kernel_rfl) (by kernel_rfl) (by intro _ _ _ h; exact h) (Or.inl ⟨by rfl, fun w hw => by (obtain ⟨⟨c0, c1⟩, d0, d1⟩ := Hfc.out w hw; go_simp; try rfl)⟩) Hb.out ?_
      refine wpAnyH_take (i := 13) (by simp only [List.getElem?_toArray, List.getElem?_cons_succ, List.getElem?_cons_zero]; rfl) (by kernel_rfl) (by kernel_rfl) (by kernel_rfl) (by intro _ _ _ h; exact h) (Or.inl ⟨by rfl, fun w hw => by (obtain ⟨⟨c0, c1⟩, d0, d1⟩ := Hfc.out w hw; go_simp; try rfl)⟩) Hb.out ?_
      go_frame
      refine wpAnyH_take (i := 14) (by simp only [List.getElem?_toArray, List.getElem?_cons_succ, List.getElem?_cons_zero]; rfl) (by kernel_rfl) (by kernel_rfl) (by kernel_rfl) (by intro _ _ _ h; exact h) (Or.inl ⟨by rfl, fun w hw => by (obtain ⟨⟨c0, c1⟩, d0, d1⟩ := Hfc.out w hw; go_simp; try rfl)⟩) Hb.out ?_
      refine wpAnyH_take (i := 15) (by simp only [List.getElem?_toArray, List.getElem?_cons_succ, List.getElem?_cons_zero]; rfl) (by kernel_rfl) (by kernel_rfl) (by kernel_rfl) (by intro _ _ _ h; exact h) (Or.inl ⟨by rfl, fun w hw => by (obtain ⟨⟨c0, c1⟩, d0, d1⟩ := Hfc.out w hw; go_simp; try rfl)⟩) Hb.out ?_
      go_frame
      refine wpAnyH_take (i := 16) (by simp only [List.getElem?_toArray, List.getElem?_cons_succ, List.getElem?_cons_zero]; rfl) (by kernel_rfl) (by kernel_rfl) (by kernel_rfl) (by intro _ _ _ h; exact h) (Or.inl ⟨by rfl, fun w hw => by (obtain ⟨⟨c0, c1⟩, d0, d1⟩ := Hfc.out w hw; go_simp; try rfl)⟩) Hb.out ?_
      refine wpAnyH_take (i := 17) (by simp only [List.getElem?_toArray, List.getElem?_cons_succ, List.getElem?_cons_zero]; rfl) (by kernel_rfl) (by kernel_rfl) (by kernel_rfl) (by intro _ _ _ h; exact h) (Or.inl ⟨by rfl, fun w hw => by (obtain ⟨⟨c0, c1⟩, d0, d1⟩ := Hfc.out w hw; go_simp; try rfl)⟩) Hb.out ?_
      go_frame
      refine wpAnyH_take (i := 18) (by simp only [List.getElem?_toArray, List.getElem?_cons_succ, List.getElem?_cons_zero]; rfl) (by kernel_rfl) (by kernel_rfl) (by kernel_rfl) (by intro _ _ _ h; exact h) (Or.inl ⟨by rfl, fun w hw => by (obtain ⟨⟨c0, c1⟩, d0, d1⟩ := Hfc.out w hw; go_simp; try rfl)⟩) Hb.out ?_
      refine wpAnyH_take (i := 19) (by simp only [List.getElem?_toArray, List.getElem?_cons_succ, List.getElem?_cons_zero]; rfl) (by kernel_rfl) (by kernel_rfl) (by kernel_rfl) (by intro _ _ _ h; exact h) (Or.inl ⟨by rfl, fun w hw => by (obtain ⟨⟨c0, c1⟩, d0, d1⟩ := Hfc.out w hw; go_simp; try rfl)⟩) Hb.out ?_
      go_frame
      refine wpAnyH_take (i := 20) (by simp only [List.getElem?_toArray, List.getElem?_cons_succ, List.getElem?_cons_zero]; rfl) (by kernel_rfl) (by kernel_rfl) (by kernel_rfl) (by intro _ _ _ h; exact h) (Or.inl ⟨by rfl, fun w hw => by (obtain ⟨⟨c0, c1⟩, d0, d1⟩ := Hfc.out w hw; go_simp; try rfl)⟩) Hb.out ?_
      refine wpAnyH_take (i := 21) (by simp only [List.getElem?_toArray, List.getElem?_cons_succ, List.getElem?_cons_zero]; rfl) (by kernel_rfl) (by kernel_rfl) (by kernel_rfl) (by intro _ _ _ h; exact h) (Or.inl ⟨by rfl, fun w hw => by (obtain ⟨⟨c0, c1⟩, d0, d1⟩ := Hfc.out w hw; go_simp; try rfl)⟩) Hb.out ?_
      go_frame
      refine wpAnyH_ready (rs := [22]) (by kernel_rfl) (by simp) ?_
      refine AllReadyH.cons rfl (fun K hK => ?_) AllReadyH.nil
      go_simp
      refine (Hc.out W0 (HBr.out.trans (H0.out.mono HBr.out.size))).mono ?_
      rintro E w5 ⟨rfl, hb5⟩
      have Hb5 : Hid (Below wr.heap.size W0 w5) := hb5.mono hs0
      refine hK.out _ _ Hb5.out (fun _ => ?_)
      clear hK K hb5
      refine wpAnyH_take (i := 23) (by simp only [List.getElem?_toArray, List.getElem?_cons_succ, List.getElem?_cons_zero]; rfl) (by kernel_rfl) (by kernel_rfl) (by kernel_rfl) (by intro _ _ _ h; exact h) (Or.inl ⟨by rfl, fun w hw => by (skip; go_simp; try rfl)⟩) Hb5.out ?_
      go_frame
      refine wpAnyH_take (i := 24) (by simp only [List.getElem?_toArray, List.getElem?_cons_succ, List.getElem?_cons_zero]; rfl) (by kernel_rfl) (by kernel_rfl) (by kernel_rfl) (by intro _ _ _ h; exact h) (Or.inl ⟨by rfl, fun w hw => by (skip; go_simp; try rfl)⟩) Hb5.out ?_
      go_frame
      refine wpAnyH_done (by kernel_rfl) ?_ _
      go_wp2_with fail
      go_roundg (n - (i + 1))
      case measure => have := Hg.out; omega
      case rel => exact ⟨i + 1, rfl, by go_num, hin, Hbw.out.trans ((H0.out.trans Hb5.out).mono Hbw.out.size)⟩
    · obtain rfl : n = i := by omega
      go_wp2_with fail
      go_ret
      exact ⟨rfl, Hbw.out⟩
set_option maxRecDepth 100000 in
set_option maxHeartbeats 4000000 in
theorem sameS_any (l : List St) (v : Value) (w0 : World) (h : StsIn w0 l v) : ∀ v', StsIn w0 l v' → RSameS w0 v v' := by
  induction h with
  | mk l v va vb vd ve vc vk h ha hb hd he hc hk ihd ihe ihk =>
  intro v' h' W hB
  cases h' with
  | mk _ _ va' vb' vd' ve' vc' vk' h' ha' hb' hd' he' hc' hk' =>
  obtain ⟨a, cap, rfl, hncap, hcap⟩ := h.form
  obtain ⟨a', cap', rfl, hncap', hcap'⟩ := h'.form
  obtain ⟨n, hn⟩ : ∃ n, n = l.length := ⟨_, rfl⟩
  have Hn := Lib.hid hn
  have Hrow : Hid (RowOf w0 (.slice a n cap) l.length 14 (fun b o i => ∀ x, l[i]? = some x → StAt w0 b o x (va i) (vb i) (vd i) (ve i) (vc i))) := by rw [hn]; exact h
  have Hrow' : Hid (RowOf w0 (.slice a' n cap') l.length 14 (fun b o i => ∀ x, l[i]? = some x → StAt w0 b o x (va' i) (vb' i) (vd' i) (ve' i) (vc' i))) := by rw [hn]; exact h'
  have Hca : Hid (∀ (i : Nat) x, l[i]? = some x → ExsIn w0 x.a.args (va i) ∧ ExsIn w0 x.a.args (va' i) ∧ ExsIn w0 x.b.args (vb i) ∧ ExsIn w0 x.b.args (vb' i)) := fun i x hx => ⟨ha i x hx, ha' i x hx, hb i x hx, hb' i x hx⟩
  have Hcd : Hid (∀ (i : Nat) x, l[i]? = some x → StsIn w0 x.body (vd i) ∧ StsIn w0 x.body (vd' i) ∧ RSameS w0 (vd i) (vd' i)) := fun i x hx => ⟨hd i x hx, hd' i x hx, ihd i x hx _ (hd' i x hx)⟩
  have Hce : Hid (∀ (i : Nat) x, l[i]? = some x → StsIn w0 x.els (ve i) ∧ StsIn w0 x.els (ve' i) ∧ RSameS w0 (ve i) (ve' i)) := fun i x hx => ⟨he i x hx, he' i x hx, ihe i x hx _ (he' i x hx)⟩
  have Hcc : Hid (∀ (i : Nat) x, l[i]? = some x → RowOf w0 (vc i) x.cases.length 2 (fun b o k => ∀ y, x.cases[k]? = some y → CsAt w0 b o y (vk i k)) ∧ RowOf w0 (vc' i) x.cases.length 2 (fun b o k => ∀ y, x.cases[k]? = some y → CsAt w0 b o y (vk' i k)) ∧
      ∀ (W : World), Below w0.heap.size w0 W → Calls Try.prog 71 #[vc i, vc' i] W (Gives (.bool true) W)) := fun i x hx => ⟨hc i x hx, hc' i x hx, sameC_row x.cases _ _ _ _ w0 (hc i x hx) (hc' i x hx) fun k y hy => ⟨hk i x k y hx hy, hk' i x k y hx hy, ihk i x k y hx hy _ (hk' i x k y hx hy)⟩⟩
  have HB := Lib.hid hB
  rw [← hn] at hncap hncap' ⊢
  have hn62 : n ≤ 9223372036854775807 := by have : maxLen ≤ 9223372036854775807 := by decide
                                            omega
  clear h ha hb hd he hc hk ihd ihe ihk h' ha' hb' hd' he' hc' hk' hn hB
  go_enter Try.func43, Try.ntmps43
  go_wp2_with fail
  go_loopg [5] n (fun gk iv wx => ∃ (i : Nat), gk = n - i ∧ iv = .int .i64 (i : Int) ∧ i ≤ n ∧ Below W.heap.size W wx)
  case atStart => exact ⟨0, rfl, rfl, Nat.zero_le _, Below.refl _ _⟩
  case round =>
    obtain ⟨i, hgk, rfl, hi, hbw⟩ := hrel
    have Hg := Lib.hid hgk
    have HBr : Hid (Below w0.heap.size w0 wr) := HB.out.trans (hbw.mono HB.out.size)
    have Hbw := Lib.hid hbw
    clear hgk hbw
    by_cases hin : i < n
    · obtain ⟨x, hx⟩ : ∃ x, l[i]? = some x := ⟨_, List.getElem?_eq_getElem (by rw [← Hn.out]; exact hin)⟩
      obtain ⟨b, off, rfl, hb, hP⟩ := Hrow.out.at (i := i) (by rw [← Hn.out]; exact hin)
      obtain ⟨b', off', rfl, hb', hP'⟩ := Hrow'.out.at (i := i) (by rw [← Hn.out]; exact hin)
      have hst := (hP x hx).later HBr.out hb
      have hst' := (hP' x hx).later HBr.out hb'
      obtain ⟨aa, ca, hva, -⟩ := (Hca.out i x hx).1.form
      obtain ⟨aa', ca', hva', -⟩ := (Hca.out i x hx).2.1.form
      obtain ⟨ab, cb, hvb, -⟩ := (Hca.out i x hx).2.2.1.form
      obtain ⟨ab', cb', hvb', -⟩ := (Hca.out i x hx).2.2.2.form
      obtain ⟨ad, cd, hvd, -⟩ := (Hcd.out i x hx).1.form
      obtain ⟨ad', cd', hvd', -⟩ := (Hcd.out i x hx).2.1.form
      obtain ⟨ae, ce, hve, -⟩ := (Hce.out i x hx).1.form
      obtain ⟨ae', ce', hve', -⟩ := (Hce.out i x hx).2.1.form
      obtain ⟨ac, cc, hvc, -⟩ := (Hcc.out i x hx).1.form
      obtain ⟨ac', cc', hvc', -⟩ := (Hcc.out i x hx).2.1.form
      obtain ⟨na, hna⟩ : ∃ n, n = x.a.args.length := ⟨_, rfl⟩
      obtain ⟨nb, hnb⟩ : ∃ n, n = x.b.args.length := ⟨_, rfl⟩
      obtain ⟨nd, hnd⟩ : ∃ n, n = x.body.length := ⟨_, rfl⟩
      obtain ⟨ne, hne⟩ : ∃ n, n = x.els.length := ⟨_, rfl⟩
      obtain ⟨nc, hnc⟩ : ∃ n, n = x.cases.length := ⟨_, rfl⟩
      rw [hva, hvb, hvd, hve, hvc, ← hna, ← hnb, ← hnd, ← hne, ← hnc] at hst
      rw [hva', hvb', hvd', hve', hvc', ← hna, ← hnb, ← hnd, ← hne, ← hnc] at hst'
      have Rd := (Hcd.out i x hx).2.2
      have Re := (Hce.out i x hx).2.2
      have Rc := (Hcc.out i x hx).2.2
      rw [hvd, hvd', ← hnd] at Rd
      rw [hve, hve', ← hne] at Re
      rw [hvc, hvc', ← hnc] at Rc
      have Ra := Hca.out i x hx
      rw [hva, hva', hvb, hvb', ← hna, ← hnb] at Ra
      have HR := Lib.hid (And.intro Ra (And.intro Rd (And.intro Re Rc)))
      have hbr : b < wr.heap.size ∧ b' < wr.heap.size := by have := HBr.out.size; omega
      clear hP hP' hx Ra Rd Re Rc hva hvb hvd hve hvc hva' hvb' hvd' hve' hvc' hna hnb hnd hne hnc
      go_upto_region 6 with (fail)
      go_cut [6, 7] from 19 to 27 (fun p q wc => ∃ D1 D2, p = .pointer (some ⟨D1, 0, none⟩) ∧ q = .pointer (some ⟨D2, 0, none⟩) ∧ D1 ≠ D2 ∧ Below wr.heap.size wr wc ∧ RowAt wr.heap.size wc D1 (stVs x (.slice aa na ca) (.slice ab nb cb) (.slice ad nd cd) (.slice ae ne ce) (.slice ac nc cc)) ∧ RowAt wr.heap.size wc D2 (stVs x (.slice aa' na ca') (.slice ab' nb cb') (.slice ad' nd cd') (.slice ae' ne ce') (.slice ac' nc cc')))
      case first =>
        obtain ⟨B0, hBe⟩ : ∃ B0, B0 = wr.heap.size := ⟨_, rfl⟩
        rw [← hBe] at hbr
        refine wp_region_held (S := Below B0 wr.drew) rfl ?_
        change wpAnyH _ _ _ _ (Below B0 wr.drew) _ _ _ wr.drew
        obtain ⟨W0, hW0⟩ : ∃ W0, W0 = wr.drew := ⟨_, rfl⟩
        rw [← hW0]
        have hb0 : Below B0 wr W0 := by rw [hW0, hBe]; exact (Below.refl _ _).drew
        have hB0 : B0 ≤ W0.heap.size := by rw [hBe]; exact hb0.size
        have Hfc : Hid (∀ W, Below B0 W0 W → StAt W b (off + i * 14) x (.slice aa na ca) (.slice ab nb cb) (.slice ad nd cd) (.slice ae ne ce) (.slice ac nc cc) ∧ StAt W b' (off' + i * 14) x (.slice aa' na ca') (.slice ab' nb cb') (.slice ad' nd cd') (.slice ae' ne ce') (.slice ac' nc cc')) := fun W hb => ⟨hst.later (hb0.trans hb) hbr.1, hst'.later (hb0.trans hb) hbr.2⟩
        have Hb : Hid (Below B0 W0 W0) := Below.refl _ _
        have H0 := Lib.hid (And.intro hb0 hBe)
        clear hb0 hW0 hst hst' hBe
        refine wpAnyH_take (i := 0) (by simp only [List.getElem?_toArray, List.getElem?_cons_zero]; rfl) (by kernel_rfl) (by kernel_rfl) (by kernel_rfl) (by intro _ _ _ h; exact h) (Or.inl ⟨by rfl, fun w hw => by (obtain ⟨⟨c0, c1, c2, c3, c4, c5, c6, c7, c8, c9, c10, c11, c12, c13⟩, d0, d1, d2, d3, d4, d5, d6, d7, d8, d9, d10, d11, d12, d13⟩ := Hfc.out w hw; go_simp; try rfl)⟩) Hb.out ?_
        refine wpAnyH_take (i := 1) (by simp only [List.getElem?_toArray, List.getElem?_cons_succ, List.getElem?_cons_zero]; rfl) (by kernel_rfl) (by kernel_rfl) (by kernel_rfl) (by intro _ _ _ h; exact h) (Or.inl ⟨by rfl, fun w hw => by (obtain ⟨⟨c0, c1, c2, c3, c4, c5, c6, c7, c8, c9, c10, c11, c12, c13⟩, d0, d1, d2, d3, d4, d5, d6, d7, d8, d9, d10, d11, d12, d13⟩ := Hfc.out w hw; go_simp; try rfl)⟩) Hb.out ?_
        go_frame
        refine wpAnyH_take (i := 2) (by simp only [List.getElem?_toArray, List.getElem?_cons_succ, List.getElem?_cons_zero]; rfl) (by kernel_rfl) (by kernel_rfl) (by kernel_rfl) (by intro _ _ _ h; exact h) (Or.inl ⟨by rfl, fun w hw => by (obtain ⟨⟨c0, c1, c2, c3, c4, c5, c6, c7, c8, c9, c10, c11, c12, c13⟩, d0, d1, d2, d3, d4, d5, d6, d7, d8, d9, d10, d11, d12, d13⟩ := Hfc.out w hw; go_simp; try rfl)⟩) Hb.out ?_
        refine wpAnyH_take (i := 3) (by simp only [List.getElem?_toArray, List.getElem?_cons_succ, List.getElem?_cons_zero]; rfl) (by kernel_rfl) (by kernel_rfl) (by kernel_rfl) (by intro _ _ _ h; exact h) (Or.inl ⟨by rfl, fun w hw => by (obtain ⟨⟨c0, c1, c2, c3, c4, c5, c6, c7, c8, c9, c10, c11, c12, c13⟩, d0, d1, d2, d3, d4, d5, d6, d7, d8, d9, d10, d11, d12, d13⟩ := Hfc.out w hw; go_simp; try rfl)⟩) Hb.out ?_
        go_frame
        refine wpAnyH_take (i := 4) (by simp only [List.getElem?_toArray, List.getElem?_cons_succ, List.getElem?_cons_zero]; rfl) (by kernel_rfl) (by kernel_rfl) (by kernel_rfl) (by intro _ _ _ h; exact h) (Or.inl ⟨by rfl, fun w hw => by (obtain ⟨⟨c0, c1, c2, c3, c4, c5, c6, c7, c8, c9, c10, c11, c12, c13⟩, d0, d1, d2, d3, d4, d5, d6, d7, d8, d9, d10, d11, d12, d13⟩ := Hfc.out w hw; go_simp; try rfl)⟩) Hb.out ?_
        refine wpAnyH_take (i := 5) (by simp only [List.getElem?_toArray, List.getElem?_cons_succ, List.getElem?_cons_zero]; rfl) (by kernel_rfl) (by kernel_rfl) (by kernel_rfl) (by intro _ _ _ h; exact h) (Or.inl ⟨by rfl, fun w hw => by (obtain ⟨⟨c0, c1, c2, c3, c4, c5, c6, c7, c8, c9, c10, c11, c12, c13⟩, d0, d1, d2, d3, d4, d5, d6, d7, d8, d9, d10, d11, d12, d13⟩ := Hfc.out w hw; go_simp; try rfl)⟩) Hb.out ?_
        go_frame
        refine wpAnyH_take (i := 6) (by simp only [List.getElem?_toArray, List.getElem?_cons_succ, List.getElem?_cons_zero]; rfl) (by kernel_rfl) (by kernel_rfl) (by kernel_rfl) (by intro _ _ _ h; exact h) (Or.inl ⟨by rfl, fun w hw => by (obtain ⟨⟨c0, c1, c2, c3, c4, c5, c6, c7, c8, c9, c10, c11, c12, c13⟩, d0, d1, d2, d3, d4, d5, d6, d7, d8, d9, d10, d11, d12, d13⟩ := Hfc.out w hw; go_simp; try rfl)⟩) Hb.out ?_
        refine wpAnyH_take (i := 7) (by simp only [List.getElem?_toArray, List.getElem?_cons_succ, List.getElem?_cons_zero]; rfl) (by kernel_rfl) (by kernel_rfl) (by kernel_rfl) (by intro _ _ _ h; exact h) (Or.inl ⟨by rfl, fun w hw => by (obtain ⟨⟨c0, c1, c2, c3, c4, c5, c6, c7, c8, c9, c10, c11, c12, c13⟩, d0, d1, d2, d3, d4, d5, d6, d7, d8, d9, d10, d11, d12, d13⟩ := Hfc.out w hw; go_simp; try rfl)⟩) Hb.out ?_
        go_frame
        refine wpAnyH_ready (rs := [8, 9]) (by kernel_rfl) (by simp) ?_
        refine AllReadyH.cons rfl (fun K hK => ?_) ?_
        · go_simp
          obtain ⟨D1, hD⟩ : ∃ D, D = W0.heap.size := ⟨_, rfl⟩
          obtain ⟨wt1, hw⟩ : ∃ w' : World, w' = W0.alloc (.cells #[.int .i64 0, .string ⟨#[]⟩, .int .i64 0, .int .i64 0, .int .i64 0, .string ⟨#[]⟩, .slice none 0 0, .int .i64 0, .int .i64 0, .string ⟨#[]⟩, .slice none 0 0, .slice none 0 0, .slice none 0 0, .slice none 0 0] 48) := ⟨_, rfl⟩
          rw [← hD, ← hw]
          have hle := Hb.out.size
          have HBt1 : Hid (Below B0 W0 wt1) := by rw [hw]; exact Hb.out.alloc (by omega) _
          have R1wt1 : Hid (RowAt B0 wt1 D1 [.int .i64 0, .string ⟨#[]⟩, .int .i64 0, .int .i64 0, .int .i64 0, .string ⟨#[]⟩, .slice none 0 0, .int .i64 0, .int .i64 0, .string ⟨#[]⟩, .slice none 0 0, .slice none 0 0, .slice none 0 0, .slice none 0 0]) := by rw [hw, hD]; exact RowAt.new (by omega) _ _
          clear hD hw hle
          refine hK.out _ _ HBt1.out (fun _ => ?_)
          clear hK K
          try go_frame
          refine wpAnyH_ready (rs := [9]) (by kernel_rfl) (by simp) ?_
          refine AllReadyH.cons rfl (fun K hK => ?_) AllReadyH.nil
          go_simp
          obtain ⟨D2, hD⟩ : ∃ D, D = wt1.heap.size := ⟨_, rfl⟩
          obtain ⟨wt2, hw⟩ : ∃ w' : World, w' = wt1.alloc (.cells #[.int .i64 0, .string ⟨#[]⟩, .int .i64 0, .int .i64 0, .int .i64 0, .string ⟨#[]⟩, .slice none 0 0, .int .i64 0, .int .i64 0, .string ⟨#[]⟩, .slice none 0 0, .slice none 0 0, .slice none 0 0, .slice none 0 0] 48) := ⟨_, rfl⟩
          rw [← hD, ← hw]
          have hle := HBt1.out.size
          have HBt2 : Hid (Below B0 W0 wt2) := by rw [hw]; exact HBt1.out.alloc (by omega) _
          have R2wt2 : Hid (RowAt B0 wt2 D2 [.int .i64 0, .string ⟨#[]⟩, .int .i64 0, .int .i64 0, .int .i64 0, .string ⟨#[]⟩, .slice none 0 0, .int .i64 0, .int .i64 0, .string ⟨#[]⟩, .slice none 0 0, .slice none 0 0, .slice none 0 0, .slice none 0 0]) := by rw [hw, hD]; exact RowAt.new (by omega) _ _
          have hlt := R1wt1.out.lt
          have R1wt2 : Hid (RowAt B0 wt2 D1 [.int .i64 0, .string ⟨#[]⟩, .int .i64 0, .int .i64 0, .int .i64 0, .string ⟨#[]⟩, .slice none 0 0, .int .i64 0, .int .i64 0, .string ⟨#[]⟩, .slice none 0 0, .slice none 0 0, .slice none 0 0, .slice none 0 0]) := by rw [hw]; exact R1wt1.out.alloc _
          have hne12 : D1 < D2 := by omega
          clear hlt
          clear hD hw hle
          refine hK.out _ _ HBt2.out (fun _ => ?_)
          clear hK K
          try go_frame
          refine wpAnyH_ready (rs := [10]) (by kernel_rfl) (by simp) ?_
          refine AllReadyH.cons rfl (fun K hK => ?_) AllReadyH.nil
          have hz := R1wt2.out.free
          have hz0 := hz 0
          have hz1 := hz 1
          have hz2 := hz 2
          have hz3 := hz 3
          have hz4 := hz 4
          have hz5 := hz 5
          have hz6 := hz 6
          have hz7 := hz 7
          have hz8 := hz 8
          have hz9 := hz 9
          have hz10 := hz 10
          have hz11 := hz 11
          have hz12 := hz 12
          have hz13 := hz 13
          have hc := R1wt2.out.cell
          have hc0 := hc 0 _ rfl
          have hc1 := hc 1 _ rfl
          have hc2 := hc 2 _ rfl
          have hc3 := hc 3 _ rfl
          have hc4 := hc 4 _ rfl
          have hc5 := hc 5 _ rfl
          have hc6 := hc 6 _ rfl
          have hc7 := hc 7 _ rfl
          have hc8 := hc 8 _ rfl
          have hc9 := hc 9 _ rfl
          have hc10 := hc 10 _ rfl
          have hc11 := hc 11 _ rfl
          have hc12 := hc 12 _ rfl
          have hc13 := hc 13 _ rfl
          clear hz hc
          go_simp
          clear hz0 hc0 hz1 hc1 hz2 hc2 hz3 hc3 hz4 hc4 hz5 hc5 hz6 hc6 hz7 hc7 hz8 hc8 hz9 hc9 hz10 hc10 hz11 hc11 hz12 hc12 hz13 hc13
          obtain ⟨wt3, hw⟩ : ∃ w' : World, w' = ((((((((((((((wt2.setCell ⟨D1, 0, none⟩ (.int .i64 x.kind)).setCell ⟨D1, 1, none⟩ (.string x.name)).setCell ⟨D1, 2, none⟩ (.int .i64 x.n)).setCell ⟨D1, 3, none⟩ (.int .i64 x.a.kind)).setCell ⟨D1, 4, none⟩ (.int .i64 x.a.n)).setCell ⟨D1, 5, none⟩ (.string x.a.name)).setCell ⟨D1, 6, none⟩ (.slice aa na ca)).setCell ⟨D1, 7, none⟩ (.int .i64 x.b.kind)).setCell ⟨D1, 8, none⟩ (.int .i64 x.b.n)).setCell ⟨D1, 9, none⟩ (.string x.b.name)).setCell ⟨D1, 10, none⟩ (.slice ab nb cb)).setCell ⟨D1, 11, none⟩ (.slice ad nd cd)).setCell ⟨D1, 12, none⟩ (.slice ae ne ce)).setCell ⟨D1, 13, none⟩ (.slice ac nc cc)) := ⟨_, rfl⟩
          rw [← hw]
          have hw' : wt3 = wt2.setCells D1 0 [.int .i64 x.kind, .string x.name, .int .i64 x.n, .int .i64 x.a.kind, .int .i64 x.a.n, .string x.a.name, .slice aa na ca, .int .i64 x.b.kind, .int .i64 x.b.n, .string x.b.name, .slice ab nb cb, .slice ad nd cd, .slice ae ne ce, .slice ac nc cc] := hw
          have HBt3 : Hid (Below B0 W0 wt3) := by rw [hw']; exact below_cells R1wt2.out.lo _ _ _ HBt2.out
          have R1wt3 : Hid (RowAt B0 wt3 D1 [.int .i64 x.kind, .string x.name, .int .i64 x.n, .int .i64 x.a.kind, .int .i64 x.a.n, .string x.a.name, .slice aa na ca, .int .i64 x.b.kind, .int .i64 x.b.n, .string x.b.name, .slice ab nb cb, .slice ad nd cd, .slice ae ne ce, .slice ac nc cc]) := by rw [hw']; exact R1wt2.out.put _ rfl
          have R2wt3 : Hid (RowAt B0 wt3 D2 [.int .i64 0, .string ⟨#[]⟩, .int .i64 0, .int .i64 0, .int .i64 0, .string ⟨#[]⟩, .slice none 0 0, .int .i64 0, .int .i64 0, .string ⟨#[]⟩, .slice none 0 0, .slice none 0 0, .slice none 0 0, .slice none 0 0]) := by rw [hw']; exact R2wt2.out.other (by omega) _
          clear hw hw'
          refine hK.out _ _ HBt3.out (fun _ => ?_)
          clear hK K
          try go_frame
          refine wpAnyH_ready (rs := [11]) (by kernel_rfl) (by simp) ?_
          refine AllReadyH.cons rfl (fun K hK => ?_) AllReadyH.nil
          have hz := R2wt3.out.free
          have hz0 := hz 0
          have hz1 := hz 1
          have hz2 := hz 2
          have hz3 := hz 3
          have hz4 := hz 4
          have hz5 := hz 5
          have hz6 := hz 6
          have hz7 := hz 7
          have hz8 := hz 8
          have hz9 := hz 9
          have hz10 := hz 10
          have hz11 := hz 11
          have hz12 := hz 12
          have hz13 := hz 13
          have hc := R2wt3.out.cell
          have hc0 := hc 0 _ rfl
          have hc1 := hc 1 _ rfl
          have hc2 := hc 2 _ rfl
          have hc3 := hc 3 _ rfl
          have hc4 := hc 4 _ rfl
          have hc5 := hc 5 _ rfl
          have hc6 := hc 6 _ rfl
          have hc7 := hc 7 _ rfl
          have hc8 := hc 8 _ rfl
          have hc9 := hc 9 _ rfl
          have hc10 := hc 10 _ rfl
          have hc11 := hc 11 _ rfl
          have hc12 := hc 12 _ rfl
          have hc13 := hc 13 _ rfl
          clear hz hc
          go_simp
          clear hz0 hc0 hz1 hc1 hz2 hc2 hz3 hc3 hz4 hc4 hz5 hc5 hz6 hc6 hz7 hc7 hz8 hc8 hz9 hc9 hz10 hc10 hz11 hc11 hz12 hc12 hz13 hc13
          obtain ⟨wt4, hw⟩ : ∃ w' : World, w' = ((((((((((((((wt3.setCell ⟨D2, 0, none⟩ (.int .i64 x.kind)).setCell ⟨D2, 1, none⟩ (.string x.name)).setCell ⟨D2, 2, none⟩ (.int .i64 x.n)).setCell ⟨D2, 3, none⟩ (.int .i64 x.a.kind)).setCell ⟨D2, 4, none⟩ (.int .i64 x.a.n)).setCell ⟨D2, 5, none⟩ (.string x.a.name)).setCell ⟨D2, 6, none⟩ (.slice aa' na ca')).setCell ⟨D2, 7, none⟩ (.int .i64 x.b.kind)).setCell ⟨D2, 8, none⟩ (.int .i64 x.b.n)).setCell ⟨D2, 9, none⟩ (.string x.b.name)).setCell ⟨D2, 10, none⟩ (.slice ab' nb cb')).setCell ⟨D2, 11, none⟩ (.slice ad' nd cd')).setCell ⟨D2, 12, none⟩ (.slice ae' ne ce')).setCell ⟨D2, 13, none⟩ (.slice ac' nc cc')) := ⟨_, rfl⟩
          rw [← hw]
          have hw' : wt4 = wt3.setCells D2 0 [.int .i64 x.kind, .string x.name, .int .i64 x.n, .int .i64 x.a.kind, .int .i64 x.a.n, .string x.a.name, .slice aa' na ca', .int .i64 x.b.kind, .int .i64 x.b.n, .string x.b.name, .slice ab' nb cb', .slice ad' nd cd', .slice ae' ne ce', .slice ac' nc cc'] := hw
          have HBt4 : Hid (Below B0 W0 wt4) := by rw [hw']; exact below_cells R2wt3.out.lo _ _ _ HBt3.out
          have R2wt4 : Hid (RowAt B0 wt4 D2 [.int .i64 x.kind, .string x.name, .int .i64 x.n, .int .i64 x.a.kind, .int .i64 x.a.n, .string x.a.name, .slice aa' na ca', .int .i64 x.b.kind, .int .i64 x.b.n, .string x.b.name, .slice ab' nb cb', .slice ad' nd cd', .slice ae' ne ce', .slice ac' nc cc']) := by rw [hw']; exact R2wt3.out.put _ rfl
          have R1wt4 : Hid (RowAt B0 wt4 D1 [.int .i64 x.kind, .string x.name, .int .i64 x.n, .int .i64 x.a.kind, .int .i64 x.a.n, .string x.a.name, .slice aa na ca, .int .i64 x.b.kind, .int .i64 x.b.n, .string x.b.name, .slice ab nb cb, .slice ad nd cd, .slice ae ne ce, .slice ac nc cc]) := by rw [hw']; exact R1wt3.out.other (by omega) _
          clear hw hw'
          refine hK.out _ _ HBt4.out (fun _ => ?_)
          clear hK K
          try go_frame
          refine wpAnyH_done (by kernel_rfl) ?_ _
          have HB := HBt4
          have R1 := R1wt4
          have R2 := R2wt4
          have hne : D1 ≠ D2 := by omega
          (go_wp2_with fail; go_meet; case rel => rw [← H0.out.2]; exact ⟨D1, D2, rfl, rfl, hne, H0.out.1.trans HB.out, R1.out, R2.out⟩)
        refine AllReadyH.cons rfl (fun K hK => ?_) AllReadyH.nil
        go_simp
        obtain ⟨D2, hD⟩ : ∃ D, D = W0.heap.size := ⟨_, rfl⟩
        obtain ⟨wt5, hw⟩ : ∃ w' : World, w' = W0.alloc (.cells #[.int .i64 0, .string ⟨#[]⟩, .int .i64 0, .int .i64 0, .int .i64 0, .string ⟨#[]⟩, .slice none 0 0, .int .i64 0, .int .i64 0, .string ⟨#[]⟩, .slice none 0 0, .slice none 0 0, .slice none 0 0, .slice none 0 0] 48) := ⟨_, rfl⟩
        rw [← hD, ← hw]
        have hle := Hb.out.size
        have HBt5 : Hid (Below B0 W0 wt5) := by rw [hw]; exact Hb.out.alloc (by omega) _
        have R2wt5 : Hid (RowAt B0 wt5 D2 [.int .i64 0, .string ⟨#[]⟩, .int .i64 0, .int .i64 0, .int .i64 0, .string ⟨#[]⟩, .slice none 0 0, .int .i64 0, .int .i64 0, .string ⟨#[]⟩, .slice none 0 0, .slice none 0 0, .slice none 0 0, .slice none 0 0]) := by rw [hw, hD]; exact RowAt.new (by omega) _ _
        clear hD hw hle
        refine hK.out _ _ HBt5.out (fun _ => ?_)
        clear hK K
        try go_frame
        refine wpAnyH_ready (rs := [8]) (by kernel_rfl) (by simp) ?_
        refine AllReadyH.cons rfl (fun K hK => ?_) AllReadyH.nil
        go_simp
        obtain ⟨D1, hD⟩ : ∃ D, D = wt5.heap.size := ⟨_, rfl⟩
        obtain ⟨wt6, hw⟩ : ∃ w' : World, w' = wt5.alloc (.cells #[.int .i64 0, .string ⟨#[]⟩, .int .i64 0, .int .i64 0, .int .i64 0, .string ⟨#[]⟩, .slice none 0 0, .int .i64 0, .int .i64 0, .string ⟨#[]⟩, .slice none 0 0, .slice none 0 0, .slice none 0 0, .slice none 0 0] 48) := ⟨_, rfl⟩
        rw [← hD, ← hw]
        have hle := HBt5.out.size
        have HBt6 : Hid (Below B0 W0 wt6) := by rw [hw]; exact HBt5.out.alloc (by omega) _
        have R1wt6 : Hid (RowAt B0 wt6 D1 [.int .i64 0, .string ⟨#[]⟩, .int .i64 0, .int .i64 0, .int .i64 0, .string ⟨#[]⟩, .slice none 0 0, .int .i64 0, .int .i64 0, .string ⟨#[]⟩, .slice none 0 0, .slice none 0 0, .slice none 0 0, .slice none 0 0]) := by rw [hw, hD]; exact RowAt.new (by omega) _ _
        have hlt := R2wt5.out.lt
        have R2wt6 : Hid (RowAt B0 wt6 D2 [.int .i64 0, .string ⟨#[]⟩, .int .i64 0, .int .i64 0, .int .i64 0, .string ⟨#[]⟩, .slice none 0 0, .int .i64 0, .int .i64 0, .string ⟨#[]⟩, .slice none 0 0, .slice none 0 0, .slice none 0 0, .slice none 0 0]) := by rw [hw]; exact R2wt5.out.alloc _
        have hne12 : D2 < D1 := by omega
        clear hlt
        clear hD hw hle
        refine hK.out _ _ HBt6.out (fun _ => ?_)
        clear hK K
        try go_frame
        refine wpAnyH_ready (rs := [10]) (by kernel_rfl) (by simp) ?_
        refine AllReadyH.cons rfl (fun K hK => ?_) AllReadyH.nil
        have hz := R1wt6.out.free
        have hz0 := hz 0
        have hz1 := hz 1
        have hz2 := hz 2
        have hz3 := hz 3
        have hz4 := hz 4
        have hz5 := hz 5
        have hz6 := hz 6
        have hz7 := hz 7
        have hz8 := hz 8
        have hz9 := hz 9
        have hz10 := hz 10
        have hz11 := hz 11
        have hz12 := hz 12
        have hz13 := hz 13
        have hc := R1wt6.out.cell
        have hc0 := hc 0 _ rfl
        have hc1 := hc 1 _ rfl
        have hc2 := hc 2 _ rfl
        have hc3 := hc 3 _ rfl
        have hc4 := hc 4 _ rfl
        have hc5 := hc 5 _ rfl
        have hc6 := hc 6 _ rfl
        have hc7 := hc 7 _ rfl
        have hc8 := hc 8 _ rfl
        have hc9 := hc 9 _ rfl
        have hc10 := hc 10 _ rfl
        have hc11 := hc 11 _ rfl
        have hc12 := hc 12 _ rfl
        have hc13 := hc 13 _ rfl
        clear hz hc
        go_simp
        clear hz0 hc0 hz1 hc1 hz2 hc2 hz3 hc3 hz4 hc4 hz5 hc5 hz6 hc6 hz7 hc7 hz8 hc8 hz9 hc9 hz10 hc10 hz11 hc11 hz12 hc12 hz13 hc13
        obtain ⟨wt7, hw⟩ : ∃ w' : World, w' = ((((((((((((((wt6.setCell ⟨D1, 0, none⟩ (.int .i64 x.kind)).setCell ⟨D1, 1, none⟩ (.string x.name)).setCell ⟨D1, 2, none⟩ (.int .i64 x.n)).setCell ⟨D1, 3, none⟩ (.int .i64 x.a.kind)).setCell ⟨D1, 4, none⟩ (.int .i64 x.a.n)).setCell ⟨D1, 5, none⟩ (.string x.a.name)).setCell ⟨D1, 6, none⟩ (.slice aa na ca)).setCell ⟨D1, 7, none⟩ (.int .i64 x.b.kind)).setCell ⟨D1, 8, none⟩ (.int .i64 x.b.n)).setCell ⟨D1, 9, none⟩ (.string x.b.name)).setCell ⟨D1, 10, none⟩ (.slice ab nb cb)).setCell ⟨D1, 11, none⟩ (.slice ad nd cd)).setCell ⟨D1, 12, none⟩ (.slice ae ne ce)).setCell ⟨D1, 13, none⟩ (.slice ac nc cc)) := ⟨_, rfl⟩
        rw [← hw]
        have hw' : wt7 = wt6.setCells D1 0 [.int .i64 x.kind, .string x.name, .int .i64 x.n, .int .i64 x.a.kind, .int .i64 x.a.n, .string x.a.name, .slice aa na ca, .int .i64 x.b.kind, .int .i64 x.b.n, .string x.b.name, .slice ab nb cb, .slice ad nd cd, .slice ae ne ce, .slice ac nc cc] := hw
        have HBt7 : Hid (Below B0 W0 wt7) := by rw [hw']; exact below_cells R1wt6.out.lo _ _ _ HBt6.out
        have R1wt7 : Hid (RowAt B0 wt7 D1 [.int .i64 x.kind, .string x.name, .int .i64 x.n, .int .i64 x.a.kind, .int .i64 x.a.n, .string x.a.name, .slice aa na ca, .int .i64 x.b.kind, .int .i64 x.b.n, .string x.b.name, .slice ab nb cb, .slice ad nd cd, .slice ae ne ce, .slice ac nc cc]) := by rw [hw']; exact R1wt6.out.put _ rfl
        have R2wt7 : Hid (RowAt B0 wt7 D2 [.int .i64 0, .string ⟨#[]⟩, .int .i64 0, .int .i64 0, .int .i64 0, .string ⟨#[]⟩, .slice none 0 0, .int .i64 0, .int .i64 0, .string ⟨#[]⟩, .slice none 0 0, .slice none 0 0, .slice none 0 0, .slice none 0 0]) := by rw [hw']; exact R2wt6.out.other (by omega) _
        clear hw hw'
        refine hK.out _ _ HBt7.out (fun _ => ?_)
        clear hK K
        try go_frame
        refine wpAnyH_ready (rs := [11]) (by kernel_rfl) (by simp) ?_
        refine AllReadyH.cons rfl (fun K hK => ?_) AllReadyH.nil
        have hz := R2wt7.out.free
        have hz0 := hz 0
        have hz1 := hz 1
        have hz2 := hz 2
        have hz3 := hz 3
        have hz4 := hz 4
        have hz5 := hz 5
        have hz6 := hz 6
        have hz7 := hz 7
        have hz8 := hz 8
        have hz9 := hz 9
        have hz10 := hz 10
        have hz11 := hz 11
        have hz12 := hz 12
        have hz13 := hz 13
        have hc := R2wt7.out.cell
        have hc0 := hc 0 _ rfl
        have hc1 := hc 1 _ rfl
        have hc2 := hc 2 _ rfl
        have hc3 := hc 3 _ rfl
        have hc4 := hc 4 _ rfl
        have hc5 := hc 5 _ rfl
        have hc6 := hc 6 _ rfl
        have hc7 := hc 7 _ rfl
        have hc8 := hc 8 _ rfl
        have hc9 := hc 9 _ rfl
        have hc10 := hc 10 _ rfl
        have hc11 := hc 11 _ rfl
        have hc12 := hc 12 _ rfl
        have hc13 := hc 13 _ rfl
        clear hz hc
        go_simp
        clear hz0 hc0 hz1 hc1 hz2 hc2 hz3 hc3 hz4 hc4 hz5 hc5 hz6 hc6 hz7 hc7 hz8 hc8 hz9 hc9 hz10 hc10 hz11 hc11 hz12 hc12 hz13 hc13
        obtain ⟨wt8, hw⟩ : ∃ w' : World, w' = ((((((((((((((wt7.setCell ⟨D2, 0, none⟩ (.int .i64 x.kind)).setCell ⟨D2, 1, none⟩ (.string x.name)).setCell ⟨D2, 2, none⟩ (.int .i64 x.n)).setCell ⟨D2, 3, none⟩ (.int .i64 x.a.kind)).setCell ⟨D2, 4, none⟩ (.int .i64 x.a.n)).setCell ⟨D2, 5, none⟩ (.string x.a.name)).setCell ⟨D2, 6, none⟩ (.slice aa' na ca')).setCell ⟨D2, 7, none⟩ (.int .i64 x.b.kind)).setCell ⟨D2, 8, none⟩ (.int .i64 x.b.n)).setCell ⟨D2, 9, none⟩ (.string x.b.name)).setCell ⟨D2, 10, none⟩ (.slice ab' nb cb')).setCell ⟨D2, 11, none⟩ (.slice ad' nd cd')).setCell ⟨D2, 12, none⟩ (.slice ae' ne ce')).setCell ⟨D2, 13, none⟩ (.slice ac' nc cc')) := ⟨_, rfl⟩
        rw [← hw]
        have hw' : wt8 = wt7.setCells D2 0 [.int .i64 x.kind, .string x.name, .int .i64 x.n, .int .i64 x.a.kind, .int .i64 x.a.n, .string x.a.name, .slice aa' na ca', .int .i64 x.b.kind, .int .i64 x.b.n, .string x.b.name, .slice ab' nb cb', .slice ad' nd cd', .slice ae' ne ce', .slice ac' nc cc'] := hw
        have HBt8 : Hid (Below B0 W0 wt8) := by rw [hw']; exact below_cells R2wt7.out.lo _ _ _ HBt7.out
        have R2wt8 : Hid (RowAt B0 wt8 D2 [.int .i64 x.kind, .string x.name, .int .i64 x.n, .int .i64 x.a.kind, .int .i64 x.a.n, .string x.a.name, .slice aa' na ca', .int .i64 x.b.kind, .int .i64 x.b.n, .string x.b.name, .slice ab' nb cb', .slice ad' nd cd', .slice ae' ne ce', .slice ac' nc cc']) := by rw [hw']; exact R2wt7.out.put _ rfl
        have R1wt8 : Hid (RowAt B0 wt8 D1 [.int .i64 x.kind, .string x.name, .int .i64 x.n, .int .i64 x.a.kind, .int .i64 x.a.n, .string x.a.name, .slice aa na ca, .int .i64 x.b.kind, .int .i64 x.b.n, .string x.b.name, .slice ab nb cb, .slice ad nd cd, .slice ae ne ce, .slice ac nc cc]) := by rw [hw']; exact R1wt7.out.other (by omega) _
        clear hw hw'
        refine hK.out _ _ HBt8.out (fun _ => ?_)
        clear hK K
        try go_frame
        refine wpAnyH_done (by kernel_rfl) ?_ _
        have HB := HBt8
        have R1 := R1wt8
        have R2 := R2wt8
        have hne : D1 ≠ D2 := by omega
        (go_wp2_with fail; go_meet; case rel => rw [← H0.out.2]; exact ⟨D1, D2, rfl, rfl, hne, H0.out.1.trans HB.out, R1.out, R2.out⟩)
      case rest =>
        obtain ⟨D1, D2, rfl, rfl, hne, hbc, hr1, hr2⟩ := hcut
        have hl1 := hr1.lt
        have hl2 := hr2.lt
        have hs1 := hr1.stAt
        have hs2 := hr2.stAt
        have Hs := Lib.hid (And.intro hs1 hs2)
        have Hbc := Lib.hid hbc
        have hbcs := hbc.size
        clear hr1 hr2 hbc hst hst'
        obtain ⟨i0, i1, i2, i3, i4, i5, i6, i7, i8, i9, i10, i11, i12, i13⟩ := hs1
        obtain ⟨j0, j1, j2, j3, j4, j5, j6, j7, j8, j9, j10, j11, j12, j13⟩ := hs2
        simp only [Nat.zero_add] at i0 i1 i2 i3 i4 i5 i6 i7 i8 i9 i10 i11 i12 i13 j0 j1 j2 j3 j4 j5 j6 j7 j8 j9 j10 j11 j12 j13
        obtain ⟨W3, hW3⟩ : ∃ w : World, w = (wc.alloc (.cells #[.int .i64 x.a.kind, .int .i64 x.a.n, .string x.a.name, .slice aa na ca, .int .i64 x.b.kind, .int .i64 x.b.n, .string x.b.name, .slice ab nb cb] 43)).alloc (.cells #[.int .i64 x.a.kind, .int .i64 x.a.n, .string x.a.name, .slice aa' na ca', .int .i64 x.b.kind, .int .i64 x.b.n, .string x.b.name, .slice ab' nb cb'] 43) := ⟨_, rfl⟩
        have hb3 : Below wc.heap.size wc W3 := by rw [hW3]; exact ((Below.refl _ _).alloc (Nat.le_refl _) _).alloc (by simp) _
        have hz3 : W3.heap.size = wc.heap.size + 2 := by rw [hW3]; simp
        have hB3 : Below w0.heap.size w0 W3 := HBr.out.trans ((Hbc.out.trans (hb3.mono hbcs)).mono HBr.out.size)
        obtain ⟨C, hC⟩ : ∃ C, C = wc.heap.size := ⟨_, rfl⟩
        have he1 : ExsIn W3 [x.a, x.b] (.slice (some ⟨C, 0, none⟩) 2 2) := by
          have q : ∀ j, W3.cell? ⟨C, j, none⟩ = (wc.alloc (.cells #[.int .i64 x.a.kind, .int .i64 x.a.n, .string x.a.name, .slice aa na ca, .int .i64 x.b.kind, .int .i64 x.b.n, .string x.b.name, .slice ab nb cb] 43)).cell? ⟨C, j, none⟩ := fun j => by
            rw [hW3]; exact ((Below.refl _ _).alloc (Nat.le_refl _) _).cell (p := ⟨C, j, none⟩) (by show C < _; simp [hC])
          refine two_in (va := .slice aa na ca) (vb := .slice ab nb cb) ?_ ?_ (by omega) (HR.out.1.1.later hB3) (HR.out.1.2.2.1.later hB3)
          · constructor <;> (rw [q]; exact World.cell?_alloc_at _ _ _ _ (by rw [hC]))
          · constructor <;> (rw [q]; exact World.cell?_alloc_at _ _ _ _ (by rw [hC]))
        have he2 : ExsIn W3 [x.a, x.b] (.slice (some ⟨C + 1, 0, none⟩) 2 2) := by
          refine two_in (va := .slice aa' na ca') (vb := .slice ab' nb cb') ?_ ?_ (by omega) (HR.out.1.2.1.later hB3) (HR.out.1.2.2.2.later hB3)
          · rw [hW3]; constructor <;> exact World.cell?_alloc_at _ _ _ _ (by rw [hC]; simp)
          · rw [hW3]; constructor <;> exact World.cell?_alloc_at _ _ _ _ (by rw [hC]; simp)
        have HE := Lib.hid (sameE_any _ _ W3 he1 _ he2 W3 (Below.refl _ _))
        have HW3 := Lib.hid (And.intro hW3 hC)
        have Hb3 := Lib.hid hb3
        have hz3' : wc.heap.size < W3.heap.size := by omega
        clear hb3 hz3 hW3 hC he1 he2 hB3
        go_wp2_with fail
        rw [← HW3.out.1, ← HW3.out.2]
        clear i0 i1 i2 i3 i4 i5 i6 i7 i8 i9 i10 i11 i12 i13 j0 j1 j2 j3 j4 j5 j6 j7 j8 j9 j10 j11 j12 j13
        refine (HE.out).mono ?_
        rintro E w4 ⟨rfl, hb4⟩
        have hb4' : Below wc.heap.size wc w4 := Hb3.out.trans (hb4.mono (by omega))
        have hq1 := Hs.out.1.later hb4' hl1
        have hq2 := Hs.out.2.later hb4' hl2
        have H4 := Lib.hid (And.intro hb4' (And.intro hq1 hq2))
        have hz4 := hb4'.size
        obtain ⟨i0, i1, i2, i3, i4, i5, i6, i7, i8, i9, i10, i11, i12, i13⟩ := hq1
        obtain ⟨j0, j1, j2, j3, j4, j5, j6, j7, j8, j9, j10, j11, j12, j13⟩ := hq2
        simp only [Nat.zero_add] at i0 i1 i2 i3 i4 i5 i6 i7 i8 i9 i10 i11 i12 i13 j0 j1 j2 j3 j4 j5 j6 j7 j8 j9 j10 j11 j12 j13
        clear hb4 hb4' HE HW3 Hb3
        go_wp2_with fail
        clear i0 i1 i2 i3 i4 i5 i6 i7 i8 i9 i10 i11 i12 i13 j0 j1 j2 j3 j4 j5 j6 j7 j8 j9 j10 j11 j12 j13
        have HB4 : Hid (Below w0.heap.size w0 w4) := HBr.out.trans ((Hbc.out.trans (H4.out.1.mono hbcs)).mono HBr.out.size)
        refine (HR.out.2.1 w4 HB4.out).mono ?_
        rintro E w5 ⟨rfl, hb5⟩
        have hq1 := H4.out.2.1.later hb5 (by omega)
        have hq2 := H4.out.2.2.later hb5 (by omega)
        have H5 := Lib.hid (And.intro hb5 (And.intro hq1 hq2))
        have hz5 := hb5.size
        obtain ⟨i0, i1, i2, i3, i4, i5, i6, i7, i8, i9, i10, i11, i12, i13⟩ := hq1
        obtain ⟨j0, j1, j2, j3, j4, j5, j6, j7, j8, j9, j10, j11, j12, j13⟩ := hq2
        simp only [Nat.zero_add] at i0 i1 i2 i3 i4 i5 i6 i7 i8 i9 i10 i11 i12 i13 j0 j1 j2 j3 j4 j5 j6 j7 j8 j9 j10 j11 j12 j13
        clear hb5
        go_wp2_with fail
        clear i0 i1 i2 i3 i4 i5 i6 i7 i8 i9 i10 i11 i12 i13 j0 j1 j2 j3 j4 j5 j6 j7 j8 j9 j10 j11 j12 j13
        have HB5 : Hid (Below w0.heap.size w0 w5) := HB4.out.trans (H5.out.1.mono HB4.out.size)
        refine (HR.out.2.2.1 w5 HB5.out).mono ?_
        rintro E w6 ⟨rfl, hb6⟩
        have hq1 := H5.out.2.1.later hb6 (by omega)
        have hq2 := H5.out.2.2.later hb6 (by omega)
        have H6 := Lib.hid hb6
        have hz6 := hb6.size
        obtain ⟨i0, i1, i2, i3, i4, i5, i6, i7, i8, i9, i10, i11, i12, i13⟩ := hq1
        obtain ⟨j0, j1, j2, j3, j4, j5, j6, j7, j8, j9, j10, j11, j12, j13⟩ := hq2
        simp only [Nat.zero_add] at i0 i1 i2 i3 i4 i5 i6 i7 i8 i9 i10 i11 i12 i13 j0 j1 j2 j3 j4 j5 j6 j7 j8 j9 j10 j11 j12 j13
        clear hb6
        go_wp2_with fail
        clear i0 i1 i2 i3 i4 i5 i6 i7 i8 i9 i10 i11 i12 i13 j0 j1 j2 j3 j4 j5 j6 j7 j8 j9 j10 j11 j12 j13
        have HB6 : Hid (Below w0.heap.size w0 w6) := HB5.out.trans (H6.out.mono HB5.out.size)
        refine (HR.out.2.2.2 w6 HB6.out).mono ?_
        rintro E w7 ⟨rfl, hb7⟩
        have Hf : Hid (Below W.heap.size W w7) := Hbw.out.trans ((Hbc.out.trans ((((H4.out.1.trans (H5.out.1.mono hz4)).trans (H6.out.mono (by omega))).trans (hb7.mono (by omega))).mono hbcs)).mono Hbw.out.size)
        clear hb7
        go_wp2_with fail
        go_roundg (n - (i + 1))
        case measure => have := Hg.out; omega
        case rel => exact ⟨i + 1, rfl, by go_num, hin, Hf.out⟩
    · obtain rfl : n = i := by omega
      go_wp2_with fail
      go_ret
      exact ⟨rfl, Hbw.out⟩
end Go.Proofs.Ytgcplcffejbniaa

namespace Go.Proofs.Ytgcplcffejbniaa
open Go.RowKit

theorem RowAt.fnAt {B : Nat} {w : World} {D : Nat} {x : Fn} {vp vb : Value} (h : RowAt B w D [.string x.name, vp, vb]) : FnCells w D 0 x vp vb := by
  have k := h.cell
  constructor <;> (first | (rw [Nat.zero_add]; exact k _ _ rfl) | exact k _ _ rfl)
theorem neq_pm (w : World) (s : ByteArray) (a b : Int) : (Go.binOp .neq 63 (.agg #[.string s, .int .i64 a, .int .i64 b]) (.agg #[.string s, .int .i64 a, .int .i64 b])).run Try.prog w = .ok (.bool false) w := by
  simp [go_sem, Try.underlying63, Try.underlying2, Try.underlying9]
set_option maxRecDepth 100000 in
set_option maxHeartbeats 4000000 in
theorem same_any (p : Pg) (vw vf vw' vf' : Value) (vp vb vp' vb' : Nat → Value) (w0 : World) (h : PgIn w0 p vw vf vp vb) (h' : PgIn w0 p vw' vf' vp' vb') (W : World) (hB : Below w0.heap.size w0 W) :
    Calls Try.prog 22 #[pgV vw vf, pgV vw' vf'] W (Gives (.bool true) W) := by
  obtain ⟨hw, hr, hpp, hbb⟩ := h
  obtain ⟨hw', hr', hpp', hbb'⟩ := h'
  obtain ⟨aw, cw, rfl, hw1, hw2⟩ : ∃ aw cw, vw = .slice aw p.widen.length cw ∧ p.widen.length ≤ cw ∧ cw ≤ maxLen := by
    obtain ⟨_, a, c, e, h1, h2, _⟩ := hw
    exact ⟨a, c, e, h1, h2⟩
  obtain ⟨aw', cw', rfl, -, -⟩ : ∃ aw cw, vw' = .slice aw p.widen.length cw ∧ p.widen.length ≤ cw ∧ cw ≤ maxLen := by
    obtain ⟨_, a, c, e, h1, h2, _⟩ := hw'
    exact ⟨a, c, e, h1, h2⟩
  obtain ⟨af, cf, rfl, hf1, hf2⟩ := hr.form
  obtain ⟨af', cf', rfl, -, -⟩ := hr'.form
  obtain ⟨m, hm⟩ : ∃ m, m = p.widen.length := ⟨_, rfl⟩
  obtain ⟨n, hn⟩ : ∃ n, n = p.funcs.length := ⟨_, rfl⟩
  have Hlen := Lib.hid (And.intro hm hn)
  have Hw : Hid (RowOf w0 (.slice aw m cw) m 1 (fun b o i => ∀ x, p.widen[i]? = some x → w0.cell? ⟨b, o, none⟩ = some (.int .i64 x)) ∧ RowOf w0 (.slice aw' m cw') m 1 (fun b o i => ∀ x, p.widen[i]? = some x → w0.cell? ⟨b, o, none⟩ = some (.int .i64 x))) := by rw [hm]; exact ⟨IntsIn.row hw, IntsIn.row hw'⟩
  have Hr : Hid (RowOf w0 (.slice af n cf) n 3 (fun b o i => ∀ x, p.funcs[i]? = some x → FnCells w0 b o x (vp i) (vb i)) ∧ RowOf w0 (.slice af' n cf') n 3 (fun b o i => ∀ x, p.funcs[i]? = some x → FnCells w0 b o x (vp' i) (vb' i))) := by rw [hn]; exact ⟨hr, hr'⟩
  have Hp : Hid (∀ (i : Nat) x, p.funcs[i]? = some x → RowOf w0 (vp i) x.params.length 3 (fun b o k => ∀ y, x.params[k]? = some y → PmAt w0 b o y) ∧ RowOf w0 (vp' i) x.params.length 3 (fun b o k => ∀ y, x.params[k]? = some y → PmAt w0 b o y) ∧ StsIn w0 x.body (vb i) ∧ StsIn w0 x.body (vb' i)) :=
    fun i x hx => ⟨hpp i x hx, hpp' i x hx, hbb i x hx, hbb' i x hx⟩
  have HB := Lib.hid hB
  rw [← hm, ← hn]
  rw [← hm] at hw1
  rw [← hn] at hf1
  have hm62 : m ≤ 9223372036854775807 := by have : maxLen ≤ 9223372036854775807 := by decide
                                            omega
  have hn62 : n ≤ 9223372036854775807 := by have : maxLen ≤ 9223372036854775807 := by decide
                                            omega
  obtain ⟨B, hBe⟩ : ∃ B, B = W.heap.size := ⟨_, rfl⟩
  obtain ⟨Wa, hWa⟩ : ∃ w : World, w = (W.alloc (.cells #[.slice aw m cw, .slice af n cf] 26)).alloc (.cells #[.slice aw' m cw', .slice af' n cf'] 26) := ⟨_, rfl⟩
  have hba : Below W.heap.size W Wa := by rw [hWa]; exact ((Below.refl _ _).alloc (Nat.le_refl _) _).alloc (by simp) _
  have hza : Wa.heap.size = B + 2 := by rw [hWa, hBe]; simp
  have hbx : Wa.cell? ⟨B, 0, none⟩ = some (.slice aw m cw) ∧ Wa.cell? ⟨B, 1, none⟩ = some (.slice af n cf) ∧ Wa.cell? ⟨B + 1, 0, none⟩ = some (.slice aw' m cw') ∧ Wa.cell? ⟨B + 1, 1, none⟩ = some (.slice af' n cf') := by
    have q1 : ∀ (w : World) (o : Obj) b j, b < w.heap.size → (w.alloc o).cell? ⟨b, j, none⟩ = w.cell? ⟨b, j, none⟩ := fun w o b j h => ((Below.refl w.heap.size w).alloc (Nat.le_refl _) o).cell (p := ⟨b, j, none⟩) h
    rw [hWa, hBe]
    refine ⟨?_, ?_, ?_, ?_⟩
    · rw [q1 _ _ _ _ (by simp)]; exact World.cell?_alloc_at _ _ _ _ rfl
    · rw [q1 _ _ _ _ (by simp)]; exact World.cell?_alloc_at _ _ _ _ rfl
    · exact World.cell?_alloc_at _ _ _ _ (by simp)
    · exact World.cell?_alloc_at _ _ _ _ (by simp)
  have Hba := Lib.hid (And.intro hba (And.intro hza hbx))
  have HWa := Lib.hid (And.intro hWa hBe)
  have hBW : W.heap.size ≤ B ∧ B ≤ W.heap.size := by omega
  have hza' : B + 1 < Wa.heap.size := by omega
  have HBa : Hid (Below w0.heap.size w0 Wa) := HB.out.trans (hba.mono HB.out.size)
  obtain ⟨c0, c1, d0, d1⟩ := hbx
  unfold pgV
  clear hw hr hpp hbb hw' hr' hpp' hbb' hB hm hn hWa hBe hba hza
  go_enter Try.func22, Try.ntmps22
  go_upto_region 1 with (fail)
  rw [← HWa.out.1, ← HWa.out.2]
  go_wp2_with fail
  clear c0 c1 d0 d1
  go_loopg [5] m (fun gk iv wx => ∃ (i : Nat), gk = m - i ∧ iv = .int .i64 (i : Int) ∧ i ≤ m ∧ Below Wa.heap.size Wa wx)
  case atStart => exact ⟨0, rfl, rfl, Nat.zero_le _, Below.refl _ _⟩
  case round =>
    obtain ⟨i, hgk, rfl, hi, hbw⟩ := hrel
    have Hg := Lib.hid hgk
    have HBr : Hid (Below w0.heap.size w0 wr) := HBa.out.trans (hbw.mono HBa.out.size)
    have Hbw := Lib.hid hbw
    have kc := fun b j (h : b < Wa.heap.size) => hbw.cell (p := ⟨b, j, none⟩) h
    obtain ⟨c0, c1, d0, d1⟩ := Hba.out.2.2
    rw [← kc _ _ (by omega)] at c0 c1 d0 d1
    have hsz := hbw.size
    clear hgk hbw kc
    by_cases hin : i < m
    · obtain ⟨y, hy⟩ : ∃ y, p.widen[i]? = some y := ⟨_, List.getElem?_eq_getElem (by rw [← Hlen.out.1]; exact hin)⟩
      obtain ⟨b, off, rfl, hb, hP⟩ := Hw.out.1.at (i := i) hin
      obtain ⟨b', off', rfl, hb', hP'⟩ := Hw.out.2.at (i := i) hin
      have e0 := (HBr.out.cell (p := ⟨b, off + i * 1, none⟩) hb).trans (hP y hy)
      have e0' := (HBr.out.cell (p := ⟨b', off' + i * 1, none⟩) hb').trans (hP' y hy)
      rw [Nat.mul_one] at e0 e0'
      have hbr : b < wr.heap.size ∧ b' < wr.heap.size := by have := HBr.out.size; omega
      clear hP hP' hy
      go_upto_region 6 with (fail)
      refine wp_region_held (S := Below wr.heap.size wr.drew) rfl ?_
      change wpAnyH _ _ _ _ (Below wr.heap.size wr.drew) _ _ _ wr.drew
      obtain ⟨W0, hW0⟩ : ∃ W0, W0 = wr.drew := ⟨_, rfl⟩
      rw [← hW0]
      have hb0 : Below wr.heap.size wr W0 := by rw [hW0]; exact (Below.refl _ _).drew
      have Hfc : Hid (∀ W, Below wr.heap.size W0 W → W.cell? ⟨B, 0, none⟩ = some (.slice (some ⟨b, off, none⟩) m cw) ∧ W.cell? ⟨B + 1, 0, none⟩ = some (.slice (some ⟨b', off', none⟩) m cw') ∧ W.cell? ⟨b, off + i, none⟩ = some (.int .i64 y) ∧ W.cell? ⟨b', off' + i, none⟩ = some (.int .i64 y)) := fun W hb => by
        have k := fun q j (h : q < wr.heap.size) => (hb0.trans hb).cell (p := ⟨q, j, none⟩) h
        exact ⟨(k _ _ (by omega)).trans c0, (k _ _ (by omega)).trans d0, (k _ _ hbr.1).trans e0, (k _ _ hbr.2).trans e0'⟩
      have Hb : Hid (Below wr.heap.size W0 W0) := Below.refl _ _
      have H0 := Lib.hid hb0
      clear hb0 hW0 c0 c1 d0 d1 e0 e0'
      refine wpAnyH_take (i := 0) (by simp only [List.getElem?_toArray, List.getElem?_cons_zero]; rfl) (by kernel_rfl) (by kernel_rfl) (by kernel_rfl) (by intro _ _ _ h; exact h) (Or.inl ⟨by rfl, fun w hw => by (obtain ⟨k0, k1, k2, k3⟩ := Hfc.out w hw; go_simp; try rfl)⟩) Hb.out ?_
      refine wpAnyH_take (i := 1) (by simp only [List.getElem?_toArray, List.getElem?_cons_succ, List.getElem?_cons_zero]; rfl) (by kernel_rfl) (by kernel_rfl) (by kernel_rfl) (by intro _ _ _ h; exact h) (Or.inl ⟨by rfl, fun w hw => by (obtain ⟨k0, k1, k2, k3⟩ := Hfc.out w hw; go_simp; try rfl)⟩) Hb.out ?_
      go_frame
      refine wpAnyH_take (i := 2) (by simp only [List.getElem?_toArray, List.getElem?_cons_succ, List.getElem?_cons_zero]; rfl) (by kernel_rfl) (by kernel_rfl) (by kernel_rfl) (by intro _ _ _ h; exact h) (Or.inl ⟨by rfl, fun w hw => by (obtain ⟨k0, k1, k2, k3⟩ := Hfc.out w hw; go_simp; try rfl)⟩) Hb.out ?_
      refine wpAnyH_take (i := 3) (by simp only [List.getElem?_toArray, List.getElem?_cons_succ, List.getElem?_cons_zero]; rfl) (by kernel_rfl) (by kernel_rfl) (by kernel_rfl) (by intro _ _ _ h; exact h) (Or.inl ⟨by rfl, fun w hw => by (obtain ⟨k0, k1, k2, k3⟩ := Hfc.out w hw; go_simp; try rfl)⟩) Hb.out ?_
      go_frame
      refine wpAnyH_take (i := 4) (by simp only [List.getElem?_toArray, List.getElem?_cons_succ, List.getElem?_cons_zero]; rfl) (by kernel_rfl) (by kernel_rfl) (by kernel_rfl) (by intro _ _ _ h; exact h) (Or.inl ⟨by rfl, fun w hw => by (obtain ⟨k0, k1, k2, k3⟩ := Hfc.out w hw; go_simp; try rfl)⟩) Hb.out ?_
      refine wpAnyH_take (i := 5) (by simp only [List.getElem?_toArray, List.getElem?_cons_succ, List.getElem?_cons_zero]; rfl) (by kernel_rfl) (by kernel_rfl) (by kernel_rfl) (by intro _ _ _ h; exact h) (Or.inl ⟨by rfl, fun w hw => by (obtain ⟨k0, k1, k2, k3⟩ := Hfc.out w hw; go_simp; try rfl)⟩) Hb.out ?_
      go_frame
      refine wpAnyH_take (i := 6) (by simp only [List.getElem?_toArray, List.getElem?_cons_succ, List.getElem?_cons_zero]; rfl) (by kernel_rfl) (by kernel_rfl) (by kernel_rfl) (by intro _ _ _ h; exact h) (Or.inl ⟨by rfl, fun w hw => by (obtain ⟨k0, k1, k2, k3⟩ := Hfc.out w hw; go_simp; try rfl)⟩) Hb.out ?_
      refine wpAnyH_take (i := 7) (by simp only [List.getElem?_toArray, List.getElem?_cons_succ, List.getElem?_cons_zero]; rfl) (by kernel_rfl) (by kernel_rfl) (by kernel_rfl) (by intro _ _ _ h; exact h) (Or.inl ⟨by rfl, fun w hw => by (obtain ⟨k0, k1, k2, k3⟩ := Hfc.out w hw; go_simp; try rfl)⟩) Hb.out ?_
      go_frame
      refine wpAnyH_take (i := 8) (by simp only [List.getElem?_toArray, List.getElem?_cons_succ, List.getElem?_cons_zero]; rfl) (by kernel_rfl) (by kernel_rfl) (by kernel_rfl) (by intro _ _ _ h; exact h) (Or.inl ⟨by rfl, fun w hw => by (obtain ⟨k0, k1, k2, k3⟩ := Hfc.out w hw; go_simp; try rfl)⟩) Hb.out ?_
      refine wpAnyH_take (i := 9) (by simp only [List.getElem?_toArray, List.getElem?_cons_succ, List.getElem?_cons_zero]; rfl) (by kernel_rfl) (by kernel_rfl) (by kernel_rfl) (by intro _ _ _ h; exact h) (Or.inl ⟨by rfl, fun w hw => by (obtain ⟨k0, k1, k2, k3⟩ := Hfc.out w hw; go_simp; try rfl)⟩) Hb.out ?_
      go_frame
      refine wpAnyH_take (i := 10) (by simp only [List.getElem?_toArray, List.getElem?_cons_succ, List.getElem?_cons_zero]; rfl) (by kernel_rfl) (by kernel_rfl) (by kernel_rfl) (by intro _ _ _ h; exact h) (Or.inl ⟨by rfl, fun w hw => by (obtain ⟨k0, k1, k2, k3⟩ := Hfc.out w hw; go_simp; try rfl)⟩) Hb.out ?_
      go_frame
      refine wpAnyH_done (by kernel_rfl) ?_ _
      go_wp2_with fail
      go_roundg (m - (i + 1))
      case measure => have := Hg.out; omega
      case rel => exact ⟨i + 1, rfl, by go_num, hin, Hbw.out.trans (H0.out.mono Hbw.out.size)⟩
    · obtain rfl : m = i := by omega
      obtain ⟨W1, hW1⟩ : ∃ w1 : World, w1 = wr := ⟨_, rfl⟩
      subst hW1
      clear hin hi Hg
      go_wp2_with fail
      clear c0 c1 d0 d1
      go_loopg [6] n (fun gk iv wx => ∃ (i : Nat), gk = n - i ∧ iv = .int .i64 (i : Int) ∧ i ≤ n ∧ Below Wa.heap.size Wa wx)
      case atStart => exact ⟨0, rfl, rfl, Nat.zero_le _, Hbw.out⟩
      case round =>
        clear Hbw HBr hsz
        obtain ⟨i, hgk, rfl, hi, hbw⟩ := hrel
        have Hg := Lib.hid hgk
        have HBr : Hid (Below w0.heap.size w0 wr) := HBa.out.trans (hbw.mono HBa.out.size)
        have Hbw := Lib.hid hbw
        have kc := fun b j (h : b < Wa.heap.size) => hbw.cell (p := ⟨b, j, none⟩) h
        obtain ⟨c0, c1, d0, d1⟩ := Hba.out.2.2
        rw [← kc _ _ (by omega)] at c0 c1 d0 d1
        have hsz := hbw.size
        clear hgk hbw kc
        by_cases hin : i < n
        · obtain ⟨x, hx⟩ : ∃ x, p.funcs[i]? = some x := ⟨_, List.getElem?_eq_getElem (by rw [← Hlen.out.2]; exact hin)⟩
          obtain ⟨b, off, rfl, hb, hP⟩ := Hr.out.1.at (i := i) hin
          obtain ⟨b', off', rfl, hb', hP'⟩ := Hr.out.2.at (i := i) hin
          have hst := (hP x hx).later HBr.out hb
          have hst' := (hP' x hx).later HBr.out hb'
          obtain ⟨ap, ca, hvp, hca1, hca2⟩ := (Hp.out i x hx).1.form
          obtain ⟨ap', ca', hvp', -⟩ := (Hp.out i x hx).2.1.form
          obtain ⟨ab, cb, hvb, -⟩ := (Hp.out i x hx).2.2.1.form
          obtain ⟨ab', cb', hvb', -⟩ := (Hp.out i x hx).2.2.2.form
          have Rb := sameS_any _ _ _ (Hp.out i x hx).2.2.1 _ (Hp.out i x hx).2.2.2
          have Rp := And.intro (Hp.out i x hx).1 (Hp.out i x hx).2.1
          obtain ⟨np, hnp⟩ : ∃ n, n = x.params.length := ⟨_, rfl⟩
          obtain ⟨nb, hnb⟩ : ∃ n, n = x.body.length := ⟨_, rfl⟩
          rw [hvp, hvb, ← hnp, ← hnb] at hst
          rw [hvp', hvb', ← hnp, ← hnb] at hst'
          rw [hvb, hvb', ← hnb] at Rb
          rw [hvp, hvp', ← hnp] at Rp
          rw [← hnp] at hca1
          have hnp62 : np ≤ 9223372036854775807 := by have : maxLen ≤ 9223372036854775807 := by decide
                                                      omega
          have HR := Lib.hid (And.intro Rp Rb)
          have Hnp := Lib.hid hnp
          have hbr : b < wr.heap.size ∧ b' < wr.heap.size := by have := HBr.out.size; omega
          clear hP hP' hx Rp Rb hvp hvb hvp' hvb' hnp hnb
          go_upto_region 11 with (fail)
          go_cut [7, 8] from 51 to 61 (fun p q wc => ∃ D1 D2, p = .pointer (some ⟨D1, 0, none⟩) ∧ q = .pointer (some ⟨D2, 0, none⟩) ∧ D1 ≠ D2 ∧ Below wr.heap.size wr wc ∧ RowAt wr.heap.size wc D1 [.string x.name, .slice ap np ca, .slice ab nb cb] ∧ RowAt wr.heap.size wc D2 [.string x.name, .slice ap' np ca', .slice ab' nb cb'])
          case first =>
            obtain ⟨B0, hBe⟩ : ∃ B0, B0 = wr.heap.size := ⟨_, rfl⟩
            rw [← hBe] at hbr
            refine wp_region_held (S := Below B0 wr.drew) rfl ?_
            change wpAnyH _ _ _ _ (Below B0 wr.drew) _ _ _ wr.drew
            obtain ⟨W0, hW0⟩ : ∃ W0, W0 = wr.drew := ⟨_, rfl⟩
            rw [← hW0]
            have hb0 : Below B0 wr W0 := by rw [hW0, hBe]; exact (Below.refl _ _).drew
            have hB0 : B0 ≤ W0.heap.size := by rw [hBe]; exact hb0.size
            have Hfc : Hid (∀ W, Below B0 W0 W → (W.cell? ⟨B, 1, none⟩ = some (.slice (some ⟨b, off, none⟩) n cf) ∧ W.cell? ⟨B + 1, 1, none⟩ = some (.slice (some ⟨b', off', none⟩) n cf')) ∧ FnCells W b (off + i * 3) x (.slice ap np ca) (.slice ab nb cb) ∧ FnCells W b' (off' + i * 3) x (.slice ap' np ca') (.slice ab' nb cb')) := fun W hb => by
              have k := fun q j (h : q < B0) => (hb0.trans hb).cell (p := ⟨q, j, none⟩) h
              exact ⟨⟨(k _ _ (by omega)).trans c1, (k _ _ (by omega)).trans d1⟩, hst.later (hb0.trans hb) hbr.1, hst'.later (hb0.trans hb) hbr.2⟩
            have Hb : Hid (Below B0 W0 W0) := Below.refl _ _
            have H0 := Lib.hid (And.intro hb0 hBe)
            clear hb0 hW0 hst hst' hBe c0 c1 d0 d1
            refine wpAnyH_take (i := 0) (by simp only [List.getElem?_toArray, List.getElem?_cons_zero]; rfl) (by kernel_rfl) (by kernel_rfl) (by kernel_rfl) (by intro _ _ _ h; exact h) (Or.inl ⟨by rfl, fun w hw => by (obtain ⟨⟨k0, k1⟩, ⟨e0, e1, e2⟩, f0, f1, f2⟩ := Hfc.out w hw; go_simp; try rfl)⟩) Hb.out ?_
            refine wpAnyH_take (i := 1) (by simp only [List.getElem?_toArray, List.getElem?_cons_succ, List.getElem?_cons_zero]; rfl) (by kernel_rfl) (by kernel_rfl) (by kernel_rfl) (by intro _ _ _ h; exact h) (Or.inl ⟨by rfl, fun w hw => by (obtain ⟨⟨k0, k1⟩, ⟨e0, e1, e2⟩, f0, f1, f2⟩ := Hfc.out w hw; go_simp; try rfl)⟩) Hb.out ?_
            go_frame
            refine wpAnyH_take (i := 2) (by simp only [List.getElem?_toArray, List.getElem?_cons_succ, List.getElem?_cons_zero]; rfl) (by kernel_rfl) (by kernel_rfl) (by kernel_rfl) (by intro _ _ _ h; exact h) (Or.inl ⟨by rfl, fun w hw => by (obtain ⟨⟨k0, k1⟩, ⟨e0, e1, e2⟩, f0, f1, f2⟩ := Hfc.out w hw; go_simp; try rfl)⟩) Hb.out ?_
            refine wpAnyH_take (i := 3) (by simp only [List.getElem?_toArray, List.getElem?_cons_succ, List.getElem?_cons_zero]; rfl) (by kernel_rfl) (by kernel_rfl) (by kernel_rfl) (by intro _ _ _ h; exact h) (Or.inl ⟨by rfl, fun w hw => by (obtain ⟨⟨k0, k1⟩, ⟨e0, e1, e2⟩, f0, f1, f2⟩ := Hfc.out w hw; go_simp; try rfl)⟩) Hb.out ?_
            go_frame
            refine wpAnyH_take (i := 4) (by simp only [List.getElem?_toArray, List.getElem?_cons_succ, List.getElem?_cons_zero]; rfl) (by kernel_rfl) (by kernel_rfl) (by kernel_rfl) (by intro _ _ _ h; exact h) (Or.inl ⟨by rfl, fun w hw => by (obtain ⟨⟨k0, k1⟩, ⟨e0, e1, e2⟩, f0, f1, f2⟩ := Hfc.out w hw; go_simp; try rfl)⟩) Hb.out ?_
            refine wpAnyH_take (i := 5) (by simp only [List.getElem?_toArray, List.getElem?_cons_succ, List.getElem?_cons_zero]; rfl) (by kernel_rfl) (by kernel_rfl) (by kernel_rfl) (by intro _ _ _ h; exact h) (Or.inl ⟨by rfl, fun w hw => by (obtain ⟨⟨k0, k1⟩, ⟨e0, e1, e2⟩, f0, f1, f2⟩ := Hfc.out w hw; go_simp; try rfl)⟩) Hb.out ?_
            go_frame
            refine wpAnyH_take (i := 6) (by simp only [List.getElem?_toArray, List.getElem?_cons_succ, List.getElem?_cons_zero]; rfl) (by kernel_rfl) (by kernel_rfl) (by kernel_rfl) (by intro _ _ _ h; exact h) (Or.inl ⟨by rfl, fun w hw => by (obtain ⟨⟨k0, k1⟩, ⟨e0, e1, e2⟩, f0, f1, f2⟩ := Hfc.out w hw; go_simp; try rfl)⟩) Hb.out ?_
            refine wpAnyH_take (i := 7) (by simp only [List.getElem?_toArray, List.getElem?_cons_succ, List.getElem?_cons_zero]; rfl) (by kernel_rfl) (by kernel_rfl) (by kernel_rfl) (by intro _ _ _ h; exact h) (Or.inl ⟨by rfl, fun w hw => by (obtain ⟨⟨k0, k1⟩, ⟨e0, e1, e2⟩, f0, f1, f2⟩ := Hfc.out w hw; go_simp; try rfl)⟩) Hb.out ?_
            go_frame
            refine wpAnyH_take (i := 8) (by simp only [List.getElem?_toArray, List.getElem?_cons_succ, List.getElem?_cons_zero]; rfl) (by kernel_rfl) (by kernel_rfl) (by kernel_rfl) (by intro _ _ _ h; exact h) (Or.inl ⟨by rfl, fun w hw => by (obtain ⟨⟨k0, k1⟩, ⟨e0, e1, e2⟩, f0, f1, f2⟩ := Hfc.out w hw; go_simp; try rfl)⟩) Hb.out ?_
            refine wpAnyH_take (i := 9) (by simp only [List.getElem?_toArray, List.getElem?_cons_succ, List.getElem?_cons_zero]; rfl) (by kernel_rfl) (by kernel_rfl) (by kernel_rfl) (by intro _ _ _ h; exact h) (Or.inl ⟨by rfl, fun w hw => by (obtain ⟨⟨k0, k1⟩, ⟨e0, e1, e2⟩, f0, f1, f2⟩ := Hfc.out w hw; go_simp; try rfl)⟩) Hb.out ?_
            go_frame
            refine wpAnyH_ready (rs := [10, 11]) (by kernel_rfl) (by simp) ?_
            refine AllReadyH.cons rfl (fun K hK => ?_) ?_
            · go_simp
              obtain ⟨D1, hD⟩ : ∃ D, D = W0.heap.size := ⟨_, rfl⟩
              obtain ⟨wt1, hw⟩ : ∃ w' : World, w' = W0.alloc (.cells #[.string ⟨#[]⟩, .slice none 0 0, .slice none 0 0] 40) := ⟨_, rfl⟩
              rw [← hD, ← hw]
              have hle := Hb.out.size
              have HBt1 : Hid (Below B0 W0 wt1) := by rw [hw]; exact Hb.out.alloc (by omega) _
              have R1wt1 : Hid (RowAt B0 wt1 D1 [.string ⟨#[]⟩, .slice none 0 0, .slice none 0 0]) := by rw [hw, hD]; exact RowAt.new (by omega) _ _
              clear hD hw hle
              refine hK.out _ _ HBt1.out (fun _ => ?_)
              clear hK K
              try go_frame
              refine wpAnyH_ready (rs := [11]) (by kernel_rfl) (by simp) ?_
              refine AllReadyH.cons rfl (fun K hK => ?_) AllReadyH.nil
              go_simp
              obtain ⟨D2, hD⟩ : ∃ D, D = wt1.heap.size := ⟨_, rfl⟩
              obtain ⟨wt2, hw⟩ : ∃ w' : World, w' = wt1.alloc (.cells #[.string ⟨#[]⟩, .slice none 0 0, .slice none 0 0] 40) := ⟨_, rfl⟩
              rw [← hD, ← hw]
              have hle := HBt1.out.size
              have HBt2 : Hid (Below B0 W0 wt2) := by rw [hw]; exact HBt1.out.alloc (by omega) _
              have R2wt2 : Hid (RowAt B0 wt2 D2 [.string ⟨#[]⟩, .slice none 0 0, .slice none 0 0]) := by rw [hw, hD]; exact RowAt.new (by omega) _ _
              have hlt := R1wt1.out.lt
              have R1wt2 : Hid (RowAt B0 wt2 D1 [.string ⟨#[]⟩, .slice none 0 0, .slice none 0 0]) := by rw [hw]; exact R1wt1.out.alloc _
              have hne12 : D1 < D2 := by omega
              clear hlt
              clear hD hw hle
              refine hK.out _ _ HBt2.out (fun _ => ?_)
              clear hK K
              try go_frame
              refine wpAnyH_ready (rs := [12]) (by kernel_rfl) (by simp) ?_
              refine AllReadyH.cons rfl (fun K hK => ?_) AllReadyH.nil
              have hz := R1wt2.out.free
              have hz0 := hz 0
              have hz1 := hz 1
              have hz2 := hz 2
              have hc := R1wt2.out.cell
              have hc0 := hc 0 _ rfl
              have hc1 := hc 1 _ rfl
              have hc2 := hc 2 _ rfl
              clear hz hc
              go_simp
              clear hz0 hc0 hz1 hc1 hz2 hc2
              obtain ⟨wt3, hw⟩ : ∃ w' : World, w' = (((wt2.setCell ⟨D1, 0, none⟩ (.string x.name)).setCell ⟨D1, 1, none⟩ (.slice ap np ca)).setCell ⟨D1, 2, none⟩ (.slice ab nb cb)) := ⟨_, rfl⟩
              rw [← hw]
              have hw' : wt3 = wt2.setCells D1 0 [.string x.name, .slice ap np ca, .slice ab nb cb] := hw
              have HBt3 : Hid (Below B0 W0 wt3) := by rw [hw']; exact below_cells R1wt2.out.lo _ _ _ HBt2.out
              have R1wt3 : Hid (RowAt B0 wt3 D1 [.string x.name, .slice ap np ca, .slice ab nb cb]) := by rw [hw']; exact R1wt2.out.put _ rfl
              have R2wt3 : Hid (RowAt B0 wt3 D2 [.string ⟨#[]⟩, .slice none 0 0, .slice none 0 0]) := by rw [hw']; exact R2wt2.out.other (by omega) _
              clear hw hw'
              refine hK.out _ _ HBt3.out (fun _ => ?_)
              clear hK K
              try go_frame
              refine wpAnyH_ready (rs := [13]) (by kernel_rfl) (by simp) ?_
              refine AllReadyH.cons rfl (fun K hK => ?_) AllReadyH.nil
              have hz := R2wt3.out.free
              have hz0 := hz 0
              have hz1 := hz 1
              have hz2 := hz 2
              have hc := R2wt3.out.cell
              have hc0 := hc 0 _ rfl
              have hc1 := hc 1 _ rfl
              have hc2 := hc 2 _ rfl
              clear hz hc
              go_simp
              clear hz0 hc0 hz1 hc1 hz2 hc2
              obtain ⟨wt4, hw⟩ : ∃ w' : World, w' = (((wt3.setCell ⟨D2, 0, none⟩ (.string x.name)).setCell ⟨D2, 1, none⟩ (.slice ap' np ca')).setCell ⟨D2, 2, none⟩ (.slice ab' nb cb')) := ⟨_, rfl⟩
              rw [← hw]
              have hw' : wt4 = wt3.setCells D2 0 [.string x.name, .slice ap' np ca', .slice ab' nb cb'] := hw
              have HBt4 : Hid (Below B0 W0 wt4) := by rw [hw']; exact below_cells R2wt3.out.lo _ _ _ HBt3.out
              have R2wt4 : Hid (RowAt B0 wt4 D2 [.string x.name, .slice ap' np ca', .slice ab' nb cb']) := by rw [hw']; exact R2wt3.out.put _ rfl
              have R1wt4 : Hid (RowAt B0 wt4 D1 [.string x.name, .slice ap np ca, .slice ab nb cb]) := by rw [hw']; exact R1wt3.out.other (by omega) _
              clear hw hw'
              refine hK.out _ _ HBt4.out (fun _ => ?_)
              clear hK K
              try go_frame
              refine wpAnyH_done (by kernel_rfl) ?_ _
              have HB := HBt4
              have R1 := R1wt4
              have R2 := R2wt4
              have hne : D1 ≠ D2 := by omega
              (go_wp2_with fail; go_meet; case rel => rw [← H0.out.2]; exact ⟨D1, D2, rfl, rfl, hne, H0.out.1.trans HB.out, R1.out, R2.out⟩)
            refine AllReadyH.cons rfl (fun K hK => ?_) AllReadyH.nil
            go_simp
            obtain ⟨D2, hD⟩ : ∃ D, D = W0.heap.size := ⟨_, rfl⟩
            obtain ⟨wt5, hw⟩ : ∃ w' : World, w' = W0.alloc (.cells #[.string ⟨#[]⟩, .slice none 0 0, .slice none 0 0] 40) := ⟨_, rfl⟩
            rw [← hD, ← hw]
            have hle := Hb.out.size
            have HBt5 : Hid (Below B0 W0 wt5) := by rw [hw]; exact Hb.out.alloc (by omega) _
            have R2wt5 : Hid (RowAt B0 wt5 D2 [.string ⟨#[]⟩, .slice none 0 0, .slice none 0 0]) := by rw [hw, hD]; exact RowAt.new (by omega) _ _
            clear hD hw hle
            refine hK.out _ _ HBt5.out (fun _ => ?_)
            clear hK K
            try go_frame
            refine wpAnyH_ready (rs := [10]) (by kernel_rfl) (by simp) ?_
            refine AllReadyH.cons rfl (fun K hK => ?_) AllReadyH.nil
            go_simp
            obtain ⟨D1, hD⟩ : ∃ D, D = wt5.heap.size := ⟨_, rfl⟩
            obtain ⟨wt6, hw⟩ : ∃ w' : World, w' = wt5.alloc (.cells #[.string ⟨#[]⟩, .slice none 0 0, .slice none 0 0] 40) := ⟨_, rfl⟩
            rw [← hD, ← hw]
            have hle := HBt5.out.size
            have HBt6 : Hid (Below B0 W0 wt6) := by rw [hw]; exact HBt5.out.alloc (by omega) _
            have R1wt6 : Hid (RowAt B0 wt6 D1 [.string ⟨#[]⟩, .slice none 0 0, .slice none 0 0]) := by rw [hw, hD]; exact RowAt.new (by omega) _ _
            have hlt := R2wt5.out.lt
            have R2wt6 : Hid (RowAt B0 wt6 D2 [.string ⟨#[]⟩, .slice none 0 0, .slice none 0 0]) := by rw [hw]; exact R2wt5.out.alloc _
            have hne12 : D2 < D1 := by omega
            clear hlt
            clear hD hw hle
            refine hK.out _ _ HBt6.out (fun _ => ?_)
            clear hK K
            try go_frame
            refine wpAnyH_ready (rs := [12]) (by kernel_rfl) (by simp) ?_
            refine AllReadyH.cons rfl (fun K hK => ?_) AllReadyH.nil
            have hz := R1wt6.out.free
            have hz0 := hz 0
            have hz1 := hz 1
            have hz2 := hz 2
            have hc := R1wt6.out.cell
            have hc0 := hc 0 _ rfl
            have hc1 := hc 1 _ rfl
            have hc2 := hc 2 _ rfl
            clear hz hc
            go_simp
            clear hz0 hc0 hz1 hc1 hz2 hc2
            obtain ⟨wt7, hw⟩ : ∃ w' : World, w' = (((wt6.setCell ⟨D1, 0, none⟩ (.string x.name)).setCell ⟨D1, 1, none⟩ (.slice ap np ca)).setCell ⟨D1, 2, none⟩ (.slice ab nb cb)) := ⟨_, rfl⟩
            rw [← hw]
            have hw' : wt7 = wt6.setCells D1 0 [.string x.name, .slice ap np ca, .slice ab nb cb] := hw
            have HBt7 : Hid (Below B0 W0 wt7) := by rw [hw']; exact below_cells R1wt6.out.lo _ _ _ HBt6.out
            have R1wt7 : Hid (RowAt B0 wt7 D1 [.string x.name, .slice ap np ca, .slice ab nb cb]) := by rw [hw']; exact R1wt6.out.put _ rfl
            have R2wt7 : Hid (RowAt B0 wt7 D2 [.string ⟨#[]⟩, .slice none 0 0, .slice none 0 0]) := by rw [hw']; exact R2wt6.out.other (by omega) _
            clear hw hw'
            refine hK.out _ _ HBt7.out (fun _ => ?_)
            clear hK K
            try go_frame
            refine wpAnyH_ready (rs := [13]) (by kernel_rfl) (by simp) ?_
            refine AllReadyH.cons rfl (fun K hK => ?_) AllReadyH.nil
            have hz := R2wt7.out.free
            have hz0 := hz 0
            have hz1 := hz 1
            have hz2 := hz 2
            have hc := R2wt7.out.cell
            have hc0 := hc 0 _ rfl
            have hc1 := hc 1 _ rfl
            have hc2 := hc 2 _ rfl
            clear hz hc
            go_simp
            clear hz0 hc0 hz1 hc1 hz2 hc2
            obtain ⟨wt8, hw⟩ : ∃ w' : World, w' = (((wt7.setCell ⟨D2, 0, none⟩ (.string x.name)).setCell ⟨D2, 1, none⟩ (.slice ap' np ca')).setCell ⟨D2, 2, none⟩ (.slice ab' nb cb')) := ⟨_, rfl⟩
            rw [← hw]
            have hw' : wt8 = wt7.setCells D2 0 [.string x.name, .slice ap' np ca', .slice ab' nb cb'] := hw
            have HBt8 : Hid (Below B0 W0 wt8) := by rw [hw']; exact below_cells R2wt7.out.lo _ _ _ HBt7.out
            have R2wt8 : Hid (RowAt B0 wt8 D2 [.string x.name, .slice ap' np ca', .slice ab' nb cb']) := by rw [hw']; exact R2wt7.out.put _ rfl
            have R1wt8 : Hid (RowAt B0 wt8 D1 [.string x.name, .slice ap np ca, .slice ab nb cb]) := by rw [hw']; exact R1wt7.out.other (by omega) _
            clear hw hw'
            refine hK.out _ _ HBt8.out (fun _ => ?_)
            clear hK K
            try go_frame
            refine wpAnyH_done (by kernel_rfl) ?_ _
            have HB := HBt8
            have R1 := R1wt8
            have R2 := R2wt8
            have hne : D1 ≠ D2 := by omega
            (go_wp2_with fail; go_meet; case rel => rw [← H0.out.2]; exact ⟨D1, D2, rfl, rfl, hne, H0.out.1.trans HB.out, R1.out, R2.out⟩)
          case rest =>
            obtain ⟨D1, D2, rfl, rfl, hne, hbc, hr1, hr2⟩ := hcut
            have hl1 := hr1.lt
            have hl2 := hr2.lt
            have hs1 := hr1.fnAt
            have hs2 := hr2.fnAt
            have Hs := Lib.hid (And.intro hs1 hs2)
            have Hbc := Lib.hid hbc
            have hbcs := hbc.size
            have Hd12 := Lib.hid (And.intro hr1.lo hr2.lo)
            clear hr1 hr2 hbc hst hst' c0 c1 d0 d1
            obtain ⟨i0, i1, i2⟩ := hs1
            obtain ⟨j0, j1, j2⟩ := hs2
            simp only [Nat.zero_add] at i0 i1 i2 j0 j1 j2
            go_wp2_with fail
            clear i0 i1 i2 j0 j1 j2
            have HBc : Hid (Below w0.heap.size w0 wc) := HBr.out.trans (Hbc.out.mono HBr.out.size)
            refine (HR.out.2 wc HBc.out).mono ?_
            rintro E w5 ⟨rfl, hb5⟩
            obtain ⟨i0, i1, i2⟩ := Hs.out.1.later hb5 hl1
            obtain ⟨j0, j1, j2⟩ := Hs.out.2.later hb5 hl2
            simp only [Nat.zero_add] at i0 i1 i2 j0 j1 j2
            have hz5 := hb5.size
            have H5 := Lib.hid hb5
            clear hb5
            go_wp2_with fail
            clear i0 i1 i2 j0 j1 j2
            obtain ⟨Wo, hWo⟩ : ∃ wo : World, wo = wr := ⟨_, rfl⟩
            subst hWo
            go_loopg [9] np (fun gk kv wx => ∃ (k : Nat), gk = np - k ∧ kv = .int .i64 (k : Int) ∧ k ≤ np ∧ Below w5.heap.size w5 wx)
            case atStart => exact ⟨0, rfl, rfl, Nat.zero_le _, Below.refl _ _⟩
            case round =>
              obtain ⟨k, hgk, rfl, hk, hbk⟩ := hrel
              have Hgk := Lib.hid hgk
              have Hbk := Lib.hid hbk
              have HBk : Hid (Below w0.heap.size w0 wr) := HBc.out.trans ((H5.out.trans (hbk.mono hz5)).mono HBc.out.size)
              have hbk' : Below wc.heap.size wc wr := H5.out.trans (hbk.mono hz5)
              have hzk := hbk'.size
              obtain ⟨i0, i1, i2⟩ := Hs.out.1.later hbk' hl1
              obtain ⟨j0, j1, j2⟩ := Hs.out.2.later hbk' hl2
              simp only [Nat.zero_add] at i0 i1 i2 j0 j1 j2
              clear i0 i2 j0 j2 hgk hbk hbk'
              by_cases hkn : k < np
              · obtain ⟨y, hy⟩ : ∃ y, x.params[k]? = some y := ⟨_, List.getElem?_eq_getElem (by rw [← Hnp.out]; exact hkn)⟩
                have R1 := HR.out.1.1
                have R2 := HR.out.1.2
                obtain ⟨b2, o2, rfl, hb2, hP2⟩ := R1.at (i := k) hkn
                obtain ⟨b3, o3, rfl, hb3, hP3⟩ := R2.at (i := k) hkn
                have e0 := (hP2 y hy).later HBk.out hb2
                have e0' := (hP3 y hy).later HBk.out hb3
                have hbr2 : b2 < wr.heap.size ∧ b3 < wr.heap.size := by have := HBk.out.size; omega
                have hnpm := neq_pm
                clear R1 R2 hP2 hP3 hy
                go_upto_region 17 with (fail)
                refine wp_region_held (S := Below wr.heap.size wr.drew) rfl ?_
                change wpAnyH _ _ _ _ (Below wr.heap.size wr.drew) _ _ _ wr.drew
                obtain ⟨W0, hW0⟩ : ∃ W0, W0 = wr.drew := ⟨_, rfl⟩
                rw [← hW0]
                have hb0 : Below wr.heap.size wr W0 := by rw [hW0]; exact (Below.refl _ _).drew
                have Hfc : Hid (∀ W, Below wr.heap.size W0 W → (W.cell? ⟨D1, 1, none⟩ = some (.slice (some ⟨b2, o2, none⟩) np ca) ∧ W.cell? ⟨D2, 1, none⟩ = some (.slice (some ⟨b3, o3, none⟩) np ca')) ∧ PmAt W b2 (o2 + k * 3) y ∧ PmAt W b3 (o3 + k * 3) y) := fun W hb => by
                  have k := fun q j (h : q < wr.heap.size) => (hb0.trans hb).cell (p := ⟨q, j, none⟩) h
                  exact ⟨⟨(k _ _ (by omega)).trans i1, (k _ _ (by omega)).trans j1⟩, e0.later (hb0.trans hb) hbr2.1, e0'.later (hb0.trans hb) hbr2.2⟩
                have Hb : Hid (Below wr.heap.size W0 W0) := Below.refl _ _
                have H0 := Lib.hid hb0
                clear hb0 hW0 i1 j1 e0 e0'
                refine wpAnyH_take (i := 0) (by simp only [List.getElem?_toArray, List.getElem?_cons_zero]; rfl) (by kernel_rfl) (by kernel_rfl) (by kernel_rfl) (by intro _ _ _ h; exact h) (Or.inl ⟨by rfl, fun w hw => by (obtain ⟨⟨k0, k1⟩, ⟨e0, e1, e2⟩, f0, f1, f2⟩ := Hfc.out w hw; go_simp; try rfl)⟩) Hb.out ?_
                refine wpAnyH_take (i := 1) (by simp only [List.getElem?_toArray, List.getElem?_cons_succ, List.getElem?_cons_zero]; rfl) (by kernel_rfl) (by kernel_rfl) (by kernel_rfl) (by intro _ _ _ h; exact h) (Or.inl ⟨by rfl, fun w hw => by (obtain ⟨⟨k0, k1⟩, ⟨e0, e1, e2⟩, f0, f1, f2⟩ := Hfc.out w hw; go_simp; try rfl)⟩) Hb.out ?_
                go_frame
                refine wpAnyH_take (i := 2) (by simp only [List.getElem?_toArray, List.getElem?_cons_succ, List.getElem?_cons_zero]; rfl) (by kernel_rfl) (by kernel_rfl) (by kernel_rfl) (by intro _ _ _ h; exact h) (Or.inl ⟨by rfl, fun w hw => by (obtain ⟨⟨k0, k1⟩, ⟨e0, e1, e2⟩, f0, f1, f2⟩ := Hfc.out w hw; go_simp; try rfl)⟩) Hb.out ?_
                refine wpAnyH_take (i := 3) (by simp only [List.getElem?_toArray, List.getElem?_cons_succ, List.getElem?_cons_zero]; rfl) (by kernel_rfl) (by kernel_rfl) (by kernel_rfl) (by intro _ _ _ h; exact h) (Or.inl ⟨by rfl, fun w hw => by (obtain ⟨⟨k0, k1⟩, ⟨e0, e1, e2⟩, f0, f1, f2⟩ := Hfc.out w hw; go_simp; try rfl)⟩) Hb.out ?_
                go_frame
                refine wpAnyH_take (i := 4) (by simp only [List.getElem?_toArray, List.getElem?_cons_succ, List.getElem?_cons_zero]; rfl) (by kernel_rfl) (by kernel_rfl) (by kernel_rfl) (by intro _ _ _ h; exact h) (Or.inl ⟨by rfl, fun w hw => by (obtain ⟨⟨k0, k1⟩, ⟨e0, e1, e2⟩, f0, f1, f2⟩ := Hfc.out w hw; go_simp; try rfl)⟩) Hb.out ?_
                refine wpAnyH_take (i := 5) (by simp only [List.getElem?_toArray, List.getElem?_cons_succ, List.getElem?_cons_zero]; rfl) (by kernel_rfl) (by kernel_rfl) (by kernel_rfl) (by intro _ _ _ h; exact h) (Or.inl ⟨by rfl, fun w hw => by (obtain ⟨⟨k0, k1⟩, ⟨e0, e1, e2⟩, f0, f1, f2⟩ := Hfc.out w hw; go_simp; try rfl)⟩) Hb.out ?_
                go_frame
                refine wpAnyH_take (i := 6) (by simp only [List.getElem?_toArray, List.getElem?_cons_succ, List.getElem?_cons_zero]; rfl) (by kernel_rfl) (by kernel_rfl) (by kernel_rfl) (by intro _ _ _ h; exact h) (Or.inl ⟨by rfl, fun w hw => by (obtain ⟨⟨k0, k1⟩, ⟨e0, e1, e2⟩, f0, f1, f2⟩ := Hfc.out w hw; go_simp; try rfl)⟩) Hb.out ?_
                refine wpAnyH_take (i := 7) (by simp only [List.getElem?_toArray, List.getElem?_cons_succ, List.getElem?_cons_zero]; rfl) (by kernel_rfl) (by kernel_rfl) (by kernel_rfl) (by intro _ _ _ h; exact h) (Or.inl ⟨by rfl, fun w hw => by (obtain ⟨⟨k0, k1⟩, ⟨e0, e1, e2⟩, f0, f1, f2⟩ := Hfc.out w hw; go_simp; try rfl)⟩) Hb.out ?_
                go_frame
                refine wpAnyH_take (i := 8) (by simp only [List.getElem?_toArray, List.getElem?_cons_succ, List.getElem?_cons_zero]; rfl) (by kernel_rfl) (by kernel_rfl) (by kernel_rfl) (by intro _ _ _ h; exact h) (Or.inl ⟨by rfl, fun w hw => by (obtain ⟨⟨k0, k1⟩, ⟨e0, e1, e2⟩, f0, f1, f2⟩ := Hfc.out w hw; go_simp; try rfl)⟩) Hb.out ?_
                refine wpAnyH_take (i := 9) (by simp only [List.getElem?_toArray, List.getElem?_cons_succ, List.getElem?_cons_zero]; rfl) (by kernel_rfl) (by kernel_rfl) (by kernel_rfl) (by intro _ _ _ h; exact h) (Or.inl ⟨by rfl, fun w hw => by (obtain ⟨⟨k0, k1⟩, ⟨e0, e1, e2⟩, f0, f1, f2⟩ := Hfc.out w hw; go_simp; try rfl)⟩) Hb.out ?_
                go_frame
                refine wpAnyH_take (i := 10) (by simp only [List.getElem?_toArray, List.getElem?_cons_succ, List.getElem?_cons_zero]; rfl) (by kernel_rfl) (by kernel_rfl) (by kernel_rfl) (by intro _ _ _ h; exact h) (Or.inl ⟨by rfl, fun w hw => by (obtain ⟨⟨k0, k1⟩, ⟨e0, e1, e2⟩, f0, f1, f2⟩ := Hfc.out w hw; go_simp; try rfl)⟩) Hb.out ?_
                go_frame
                refine wpAnyH_done (by kernel_rfl) ?_ _
                go_wp2_with fail
                go_roundg (np - (k + 1))
                case measure => have := Hgk.out; omega
                case rel => exact ⟨k + 1, rfl, by go_num, hkn, Hbk.out.trans (H0.out.mono Hbk.out.size)⟩
              · obtain rfl : np = k := by omega
                have Hf : Hid (Below Wa.heap.size Wa wr) := Hbw.out.trans ((Hbc.out.trans ((H5.out.trans (Hbk.out.mono hz5)).mono hbcs)).mono Hbw.out.size)
                go_wp2_with fail
                go_roundg (n - (i + 1))
                case measure => have := Hg.out; omega
                case rel => exact ⟨i + 1, rfl, by go_num, hin, Hf.out⟩
        · obtain rfl : n = i := by omega
          go_wp2_with fail
          go_ret
          exact ⟨rfl, Hba.out.1.trans (Hbw.out.mono (by omega))⟩
end Go.Proofs.Ytgcplcffejbniaa
