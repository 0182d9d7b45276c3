/- The reference's Has and Depth. -/
import Derived.Test.YtapjdndcnenadaaDoorLoops
namespace Go.Proofs.YtapjdndcnenadaaDoor
open Go.RowKit

set_option maxHeartbeats 1000000 in
theorem rhas_any (v : Value) (l : List Int) (a : Int) (w : World) (h : IntsIn w v l) :
    Calls Tryd.prog 16 #[v, .int .i64 a] w (fun e w' => e = .returned (.bool (l.contains a)) ∧ w = w') := by
  have h0 := h
  obtain ⟨-, av, cv, rfl, h1, h2, -, hav⟩ := h0
  obtain ⟨n, hn⟩ : ∃ n, n = l.length := ⟨_, rfl⟩
  rw [← hn] at h1 hav h ⊢
  have hn9 : n ≤ 9223372036854775807 := by unfold maxLen at h2; omega
  have Hn := Lib.hid hn
  clear h hn h1 h2
  go_enter Tryd.func16, Tryd.ntmps16
  go_wp2_with fail
  go_loopw [5] (fun i wi => ∃ k : Nat, k ≤ n ∧ i = .int .i64 (k : Int) ∧ (∀ (j : Nat) u, j < k → l[j]? = some u → u ≠ a) ∧ wi = w) (fun i _ => n - (intOf i).toNat)
  case atStart => exact ⟨0, Nat.zero_le _, rfl, fun j u h => by omega, rfl⟩
  case round =>
    obtain ⟨k, hk, rfl, hno, hwr⟩ := hrel
    subst hwr
    by_cases hkn : k < n
    · obtain ⟨g, off, rfl, hg, hc⟩ := hav (by omega)
      obtain ⟨u, hu⟩ : ∃ u, l[k]? = some u := ⟨_, List.getElem?_eq_getElem (by rw [← Hn.out]; exact hkn)⟩
      have hcu := hc k _ (show (intVs l)[k]? = some (.int .i64 u) by simp [intVs, hu])
      have Hu := Lib.hid hu
      have Hno := Lib.hid hno
      clear hu hno hc
      by_cases hua : u = a
      · have hq : (u == a) = true := by simp [hua]
        have Hres : Hid (l.contains a = true) := by
          show _ = _
          rw [List.contains_iff_mem, ← hua]; exact List.mem_of_getElem? Hu.out
        clear hua
        go_wp2_with fail
        go_ret
        exact ⟨by rw [Hres.out]; rfl, rfl⟩
      · have hq : (u == a) = false := by simp [hua]
        go_wp2_with fail
        go_roundw
        case rel =>
          refine ⟨k + 1, hkn, by go_num, fun j y hj hy => ?_, trivial⟩
          by_cases e : j = k
          · subst e
            rw [Hu.out] at hy
            cases hy; exact hua
          · exact Hno.out j y (by omega) hy
        case measure => simp [intOf]; omega
    · obtain rfl : n = k := by omega
      have Hres : Hid (l.contains a = false) := by
        show _ = _
        rw [Bool.eq_false_iff]
        intro hm
        rw [List.contains_iff_mem] at hm
        obtain ⟨t, ht, e⟩ := List.mem_iff_getElem.1 hm
        exact hno t a (by rw [Hn.out]; exact ht) (by rw [List.getElem?_eq_getElem ht, e]) rfl
      clear hno hkn
      go_wp2_with fail
      go_ret
      exact ⟨by rw [Hres.out]; rfl, rfl⟩

set_option maxHeartbeats 1000000 in
theorem rdepth_any (v : Value) (l : List LP) (a : Int) (w : World) (h : LoopsIn w v l) :
    Calls Tryd.prog 14 #[v, .int .i64 a] w (fun e w' => e = .returned (.int .i64 (depthOf l a : Nat)) ∧ w = w') := by
  obtain ⟨av, cv, rfl, hlm, hav⟩ := h.form
  have H := Lib.hid h
  obtain ⟨n, hn⟩ : ∃ n, n = l.length := ⟨_, rfl⟩
  rw [← hn] at hlm hav h ⊢
  have hn9 : n ≤ 9223372036854775807 := by unfold maxLen at hlm; omega
  have Hn := Lib.hid hn
  clear h hn hlm
  go_enter Tryd.func14, Tryd.ntmps14
  go_wp2_with fail
  go_loopw [5, 6] (fun d i wi => ∃ k : Nat, k ≤ n ∧ d = .int .i64 (depthOf (l.take k) a : Nat) ∧ i = .int .i64 (k : Int) ∧ wi = w) (fun _ i _ => n - (intOf i).toNat)
  case atStart => exact ⟨0, Nat.zero_le _, rfl, rfl, rfl⟩
  case round =>
    obtain ⟨k, hk, rfl, rfl, hwr⟩ := hrel
    subst hwr
    have hdk : depthOf (l.take k) a ≤ k := Nat.le_trans (depthOf_le _ _) (by rw [List.length_take]; omega)
    by_cases hkn : k < n
    · obtain ⟨g, off, rfl, hg⟩ := hav (by omega)
      obtain ⟨x, hx⟩ : ∃ x, l[k]? = some x := ⟨_, List.getElem?_eq_getElem (by rw [← Hn.out]; exact hkn)⟩
      have hHl := H.out
      rw [← Hn.out] at hHl
      obtain ⟨-, -, c2, -⟩ := hHl.at' hx
      have hm := (hHl.each x (List.mem_of_getElem? hx)).1
      have hdt := depth_take hx a
      have hmv := hm
      obtain ⟨-, am, cm, hvm, -⟩ := hmv
      rw [hvm] at c2
      obtain ⟨nm, hnm⟩ : ∃ nm, nm = x.mem.length := ⟨_, rfl⟩
      rw [← hnm] at c2 hvm
      have Hm := Lib.hid hm
      have Hvm := Lib.hid hvm
      obtain ⟨d, hd⟩ : ∃ d, d = depthOf (l.take k) a := ⟨_, rfl⟩
      rw [← hd] at hdk hdt ⊢
      have Hdt := Lib.hid hdt
      clear hx hm hdt hHl hvm hnm hd
      go_wp2_with fail
      refine (rhas_any _ x.mem a _ (by rw [← Hvm.out]; exact Hm.out)).mono ?_
      rintro e w' ⟨rfl, rfl⟩
      cases hc : x.mem.contains a
      · have Hc : Hid (depthOf (l.take (k + 1)) a = d) := by show _ = _; rw [Hdt.out, hc]; simp
        clear hc
        go_wp2_with fail
        go_roundw
        case rel => exact ⟨k + 1, hkn, by rw [Hc.out], by go_num, trivial⟩
        case measure => simp [intOf]; omega
      · have Hc : Hid (depthOf (l.take (k + 1)) a = d + 1) := by show _ = _; rw [Hdt.out, hc]; simp
        clear hc
        go_wp2_with fail
        go_roundw
        case rel => exact ⟨k + 1, hkn, by rw [Hc.out]; go_num, by go_num, trivial⟩
        case measure => simp [intOf]; omega
    · obtain rfl : n = k := by omega
      have Hres : Hid (l.take n = l) := List.take_of_length_le (by rw [← Hn.out]; exact Nat.le_refl _)
      clear hkn
      go_wp2_with fail
      go_ret
      exact ⟨by rw [Hres.out]; rfl, rfl⟩
end Go.Proofs.YtapjdndcnenadaaDoor
