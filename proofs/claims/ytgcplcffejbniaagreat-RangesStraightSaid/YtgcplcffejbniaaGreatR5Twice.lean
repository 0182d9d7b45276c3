/- R5's look at ranges: two cases of one number. -/
import Derived.Test.YtgcplcffejbniaaGreatR5Calls
namespace Go.Proofs.YtgcplcffejbniaaGreat
open Go.RowKit Go.Maps

theorem twice_iff (l : List Cs) (seen : List Int) : twiceN l seen = true ↔ (∃ (i : Nat) (c : Cs), l[i]? = some c ∧ c.n ∈ seen) ∨ ∃ (i k : Nat) (c d : Cs), k < i ∧ l[i]? = some c ∧ l[k]? = some d ∧ c.n = d.n := by
  induction l generalizing seen with
  | nil => simp [twiceN]
  | cons x l ih =>
    simp only [twiceN, Bool.or_eq_true, decide_eq_true_eq, ih]
    constructor
    · rintro (h | ⟨i, c, hc, hs⟩ | ⟨i, k, c, d, hk, hc, hd, e⟩)
      · exact .inl ⟨0, x, rfl, h⟩
      · rcases List.mem_cons.1 hs with h | h
        · exact .inr ⟨i + 1, 0, c, x, by omega, by simpa using hc, rfl, h⟩
        · exact .inl ⟨i + 1, c, by simpa using hc, h⟩
      · exact .inr ⟨i + 1, k + 1, c, d, by omega, by simpa using hc, by simpa using hd, e⟩
    · rintro (⟨i, c, hc, hs⟩ | ⟨i, k, c, d, hk, hc, hd, e⟩)
      · cases i with
        | zero => simp at hc; subst hc; exact .inl hs
        | succ i => exact .inr (.inl ⟨i, c, by simpa using hc, List.mem_cons_of_mem _ hs⟩)
      · cases i with
        | zero => omega
        | succ i =>
          cases k with
          | zero => simp at hd; subst hd; exact .inr (.inl ⟨i, c, by simpa using hc, by rw [e]; exact List.mem_cons_self ..⟩)
          | succ k => exact .inr (.inr ⟨i, k, c, d, by omega, by simpa using hc, by simpa using hd, e⟩)
theorem twice_hit {l : List Cs} {i k : Nat} {c d : Cs} (hk : k < i) (hc : l[i]? = some c) (hd : l[k]? = some d) (e : c.n = d.n) : twiceN l [] = true := (twice_iff l []).2 (.inr ⟨i, k, c, d, hk, hc, hd, e⟩)
theorem twice_none {l : List Cs} (h : ∀ (i k : Nat) (c d : Cs), k < i → l[i]? = some c → l[k]? = some d → c.n ≠ d.n) : twiceN l [] = false := by
  rw [Bool.eq_false_iff]
  intro ht
  rcases (twice_iff l []).1 ht with ⟨i, c, _, hs⟩ | ⟨i, k, c, d, hk, hc, hd, e⟩
  · simp at hs
  · exact h i k c d hk hc hd e
set_option maxRecDepth 100000 in
set_option maxHeartbeats 4000000 in
theorem twice5_any (l : List Cs) (v : Value) (vk : Nat → Value) (w0 W : World) (h : RowOf w0 v l.length 2 (fun b o k => ∀ y, l[k]? = some y → CsAt w0 b o y (vk k))) (hB : Below w0.heap.size w0 W) :
    Calls Tryz.prog 50 #[v] W (Gives (.bool (twiceN l [])) W) := by
  obtain ⟨a, cap, rfl, hncap, hcap⟩ := h.form
  obtain ⟨m, hm⟩ : ∃ m, m = l.length := ⟨_, rfl⟩
  have Hm := Lib.hid hm
  have Hrow : Hid (RowOf w0 (.slice a m cap) l.length 2 (fun b o i => ∀ x, l[i]? = some x → CsAt w0 b o x (vk i))) := by rw [hm]; exact h
  have hn62 : m ≤ 9223372036854775807 := by have : maxLen ≤ 9223372036854775807 := by decide
                                            omega
  have HB := Lib.hid hB
  rw [← hm]
  clear h hm hncap hB
  go_enter Tryz.func50, Tryz.ntmps50
  go_wp2_with fail
  go_loopg [3] m (fun g iv wx => ∃ i : Nat, g = m - i ∧ iv = .int .i64 (i : Int) ∧ i ≤ m ∧ (∀ (j k : Nat) (c d : Cs), j < i → k < j → l[j]? = some c → l[k]? = some d → c.n ≠ d.n) ∧ Below W.heap.size W wx)
  case atStart => exact ⟨0, rfl, rfl, Nat.zero_le _, fun j k c d h => by omega, Below.refl _ _⟩
  case round =>
    obtain ⟨i, hg, rfl, hi, hn, hb⟩ := hrel
    have Hg := Lib.hid hg
    have Hn := Lib.hid (And.intro hn hb)
    clear hg hn hb
    by_cases him : i < m
    · obtain ⟨x, hx⟩ : ∃ x, l[i]? = some x := ⟨_, List.getElem?_eq_getElem (by rw [← Hm.out]; exact him)⟩
      obtain ⟨bx, ox, rfl, hbx, hPx⟩ := Hrow.out.at (i := i) (by rw [← Hm.out]; exact him)
      have Hx := Lib.hid (And.intro hx (hPx x hx))
      clear hx hPx
      go_wp2_with fail
      go_loopg [4] i (fun g iv wx => ∃ k : Nat, g = i - k ∧ iv = .int .i64 (k : Int) ∧ k ≤ i ∧ (∀ (j : Nat) (d : Cs), j < k → l[j]? = some d → x.n ≠ d.n) ∧ Below W.heap.size W wx)
      case atStart => exact ⟨0, rfl, rfl, Nat.zero_le _, fun j d h => by omega, Hn.out.2⟩
      case round =>
        obtain ⟨k, hg2, rfl, hk, hn2, hb2⟩ := hrel
        have Hg2 := Lib.hid hg2
        have Hn2 := Lib.hid (And.intro hn2 hb2)
        obtain ⟨V, hV⟩ : ∃ V : World, V = wr := ⟨_, rfl⟩
        subst hV
        clear hg2 hn2 hb2
        by_cases hki : k < i
        · obtain ⟨y, hy⟩ : ∃ y, l[k]? = some y := ⟨_, List.getElem?_eq_getElem (by rw [← Hm.out]; omega)⟩
          obtain ⟨by', oy, hay, hby, hPy⟩ := Hrow.out.at (i := k) (by rw [← Hm.out]; omega)
          cases hay
          have hkm : k < m := by omega
          have Hy := Lib.hid (And.intro hy (hPy y hy))
          clear hy hPy
          go_upto_region 7 with (fail)
          obtain ⟨B0, hBe⟩ : ∃ B0, B0 = V.heap.size := ⟨_, rfl⟩
          refine wp_region_held (S := Below B0 V.drew) rfl ?_
          change wpAnyH _ _ _ _ (Below B0 V.drew) _ _ _ V.drew
          obtain ⟨W2, hW2⟩ : ∃ W0, W0 = V.drew := ⟨_, rfl⟩
          rw [← hW2]
          have hb2 : Below V.heap.size V W2 := by rw [hW2]; exact (Below.refl _ _).drew
          have Hfc : Hid (∀ W', Below B0 W2 W' → W'.cell? ⟨bx, ox + i * 2, none⟩ = some (.int .i64 x.n) ∧ W'.cell? ⟨bx, ox + k * 2, none⟩ = some (.int .i64 y.n)) := fun W' hb => by
            have h2 : Below V.heap.size V W' := hb2.trans (by rw [hBe] at hb; exact hb)
            have h3 : Below w0.heap.size w0 W' := HB.out.trans ((Hn2.out.2.trans (h2.mono Hn2.out.2.size)).mono HB.out.size)
            exact ⟨(h3.cell (p := ⟨bx, _, none⟩) hbx).trans Hx.out.2.c0, (h3.cell (p := ⟨bx, _, none⟩) hbx).trans Hy.out.2.c0⟩
          have Hb2 : Hid (Below B0 W2 W2) := Below.refl _ _
          have H2 := Lib.hid (Hn2.out.2.trans (hb2.mono Hn2.out.2.size))
          clear hb2 hW2 hBe
          refine wpAnyH_take (i := 0) (by simp only [List.getElem?_toArray, List.getElem?_cons_zero]; rfl) (by kernel_rfl) (by kernel_rfl) (by kernel_rfl) (by intro _ _ _ h; exact h) (Or.inl ⟨by rfl, fun w hw => by (obtain ⟨e0, e1⟩ := Hfc.out w hw; go_simp; try rfl)⟩) Hb2.out ?_
          refine wpAnyH_take (i := 1) (by simp only [List.getElem?_toArray, List.getElem?_cons_succ, List.getElem?_cons_zero]; rfl) (by kernel_rfl) (by kernel_rfl) (by kernel_rfl) (by intro _ _ _ h; exact h) (Or.inl ⟨by rfl, fun w hw => by (obtain ⟨e0, e1⟩ := Hfc.out w hw; go_simp; try rfl)⟩) Hb2.out ?_
          go_frame
          refine wpAnyH_take (i := 2) (by simp only [List.getElem?_toArray, List.getElem?_cons_succ, List.getElem?_cons_zero]; rfl) (by kernel_rfl) (by kernel_rfl) (by kernel_rfl) (by intro _ _ _ h; exact h) (Or.inl ⟨by rfl, fun w hw => by (obtain ⟨e0, e1⟩ := Hfc.out w hw; go_simp; try rfl)⟩) Hb2.out ?_
          refine wpAnyH_take (i := 3) (by simp only [List.getElem?_toArray, List.getElem?_cons_succ, List.getElem?_cons_zero]; rfl) (by kernel_rfl) (by kernel_rfl) (by kernel_rfl) (by intro _ _ _ h; exact h) (Or.inl ⟨by rfl, fun w hw => by (obtain ⟨e0, e1⟩ := Hfc.out w hw; go_simp; try rfl)⟩) Hb2.out ?_
          go_frame
          refine wpAnyH_take (i := 4) (by simp only [List.getElem?_toArray, List.getElem?_cons_succ, List.getElem?_cons_zero]; rfl) (by kernel_rfl) (by kernel_rfl) (by kernel_rfl) (by intro _ _ _ h; exact h) (Or.inl ⟨by rfl, fun w hw => by (obtain ⟨e0, e1⟩ := Hfc.out w hw; go_simp; try rfl)⟩) Hb2.out ?_
          refine wpAnyH_take (i := 5) (by simp only [List.getElem?_toArray, List.getElem?_cons_succ, List.getElem?_cons_zero]; rfl) (by kernel_rfl) (by kernel_rfl) (by kernel_rfl) (by intro _ _ _ h; exact h) (Or.inl ⟨by rfl, fun w hw => by (obtain ⟨e0, e1⟩ := Hfc.out w hw; go_simp; try rfl)⟩) Hb2.out ?_
          go_frame
          refine wpAnyH_take (i := 6) (by simp only [List.getElem?_toArray, List.getElem?_cons_succ, List.getElem?_cons_zero]; rfl) (by kernel_rfl) (by kernel_rfl) (by kernel_rfl) (by intro _ _ _ h; exact h) (Or.inl ⟨by rfl, fun w hw => by (obtain ⟨e0, e1⟩ := Hfc.out w hw; go_simp; try rfl)⟩) Hb2.out ?_
          refine wpAnyH_take (i := 7) (by simp only [List.getElem?_toArray, List.getElem?_cons_succ, List.getElem?_cons_zero]; rfl) (by kernel_rfl) (by kernel_rfl) (by kernel_rfl) (by intro _ _ _ h; exact h) (Or.inl ⟨by rfl, fun w hw => by (obtain ⟨e0, e1⟩ := Hfc.out w hw; go_simp; try rfl)⟩) Hb2.out ?_
          go_frame
          refine wpAnyH_take (i := 8) (by simp only [List.getElem?_toArray, List.getElem?_cons_succ, List.getElem?_cons_zero]; rfl) (by kernel_rfl) (by kernel_rfl) (by kernel_rfl) (by intro _ _ _ h; exact h) (Or.inl ⟨by rfl, fun w hw => by (obtain ⟨e0, e1⟩ := Hfc.out w hw; go_simp; try rfl)⟩) Hb2.out ?_
          refine wpAnyH_take (i := 9) (by simp only [List.getElem?_toArray, List.getElem?_cons_succ, List.getElem?_cons_zero]; rfl) (by kernel_rfl) (by kernel_rfl) (by kernel_rfl) (by intro _ _ _ h; exact h) (Or.inl ⟨by rfl, fun w hw => by (obtain ⟨e0, e1⟩ := Hfc.out w hw; go_simp; try rfl)⟩) Hb2.out ?_
          go_frame
          refine wpAnyH_take (i := 10) (by simp only [List.getElem?_toArray, List.getElem?_cons_succ, List.getElem?_cons_zero]; rfl) (by kernel_rfl) (by kernel_rfl) (by kernel_rfl) (by intro _ _ _ h; exact h) (Or.inl ⟨by rfl, fun w hw => by (obtain ⟨e0, e1⟩ := Hfc.out w hw; go_simp; try rfl)⟩) Hb2.out ?_
          go_frame
          try go_frame
          refine wpAnyH_done (by kernel_rfl) ?_ _
          by_cases he : x.n = y.n
          · have hq : (x.n == y.n) = true := by simp [he]
            have Hr : Hid (twiceN l [] = true) := twice_hit hki Hx.out.1 Hy.out.1 he
            rw [hq]
            clear he hq
            go_wp2_with fail
            go_ret
            exact ⟨by rw [Hr.out]; rfl, H2.out⟩
          · have hq : (x.n == y.n) = false := by simp [he]
            have He := Lib.hid he
            rw [hq]
            clear he hq
            go_wp2_with fail
            go_roundg (i - (k + 1))
            case measure => have := Hg2.out; omega
            case rel => exact ⟨k + 1, rfl, by go_num, hki, fun j d hj hd => by
              by_cases e : j = k
              · subst e; rw [Hy.out.1] at hd; cases hd; exact He.out
              · exact Hn2.out.1 j d (by omega) hd, H2.out⟩
        · obtain rfl : i = k := by omega
          go_wp2_with fail
          go_roundg (m - (i + 1))
          case measure => have := Hg.out; omega
          case rel => exact ⟨i + 1, rfl, by go_num, him, fun j k c d hj hk2 hc hd => by
            by_cases e : j = i
            · subst e; rw [Hx.out.1] at hc; cases hc; exact Hn2.out.1 k d hk2 hd
            · exact Hn.out.1 j k c d (by omega) hk2 hc hd, Hn2.out.2⟩
    · obtain rfl : m = i := by omega
      have Hr : Hid (twiceN l [] = false) := twice_none fun j k c d hk hc hd => Hn.out.1 j k c d (by rw [Hm.out]; exact (List.getElem?_eq_some_iff.1 hc).1) hk hc hd
      go_wp2_with fail
      go_ret
      exact ⟨by rw [Hr.out]; rfl, Hn.out.2⟩
end Go.Proofs.YtgcplcffejbniaaGreat
