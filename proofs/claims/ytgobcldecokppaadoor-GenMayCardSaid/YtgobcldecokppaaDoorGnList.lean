/- gen: what a list of statements knows is taken out at its end. -/
import Derived.Test.YtgobcldecokppaaDoorGnCall
namespace Go.Proofs.YtgobcldecokppaaDoor
open Go.RowKit Go.Maps

theorem GEnv.del_snoc (V : GEnv) (l : List ByteArray) (s : ByteArray) : V.del (l ++ [s]) = (V.del l).put s noPlc := by
  induction l generalizing V with
  | nil => rfl
  | cons x l ih => simp only [List.cons_append, GEnv.del, ih]
theorem GEnv.del_reg {V : GEnv} (h : ∀ y, 0 ≤ (V y).reg ∧ (V y).reg ≤ 1000000000000) (l : List ByteArray) : ∀ y, 0 ≤ (V.del l y).reg ∧ (V.del l y).reg ≤ 1000000000000 := by
  induction l generalizing V with
  | nil => exact h
  | cons x l ih =>
    refine ih fun y => ?_
    unfold GEnv.put
    split
    · exact zero12
    · exact h y
set_option maxRecDepth 100000 in
set_option maxHeartbeats 4000000 in
theorem dels_any (u : FrameMode) (bn bm B' : Nat) (nv : Value) (ns : List ByteArray) (hns : ∀ y ∈ ns, y.size ≤ 16) (w : World) (B : Nat) (m : Mk) (F : ByteArray → Int) (N : Nat) (s : GS) (h : MkAt w B m F N s) (hown : OwnStrs w B' nv ns) (hT : ∀ k, nv.ownBlock = some k → k ≠ m.v) (hlen : ns.length ≤ 1000000000)
    (n0 : w.cell? ⟨bn, 0, none⟩ = some nv) (m0 : w.cell? ⟨bm, 0, none⟩ = some (ptrV m.b)) (hbm : bm ≠ m.v) :
    CallsD Tryd.prog 21 #[.pointer (some ⟨bn, 0, none⟩), .pointer (some ⟨bm, 0, none⟩)] u w (fun E u' w' => u' = u ∧ E = .returned (.tuple #[]) ∧ MkAt w' B m F N { s with V := s.V.del ns } ∧ GStep w m w' m) := by
  obtain ⟨a, n, cap, rfl⟩ := row_shape hown
  have hn : n = ns.length := by
    have h1 := hown.1
    rcases hown.2 with ⟨e, e0⟩ | ⟨g, c2, cur, e, _⟩
    · cases e; exact e0.symm
    · cases e; rfl
  have H := Lib.hid (And.intro h (And.intro hown (And.intro hT hn)))
  have Hns := Lib.hid hns
  have qm := block_lt_of_cell m0
  have hn9 : n ≤ 1000000000 := by omega
  have Hm0 := Lib.hid m0
  clear h hown hT hn hns hlen
  unfold ptrV at *
  go_enter_d Tryd.func21, Tryd.ntmps21
  go_wp2_with fail
  go_loopg [6] n (fun g iv wx => ∃ i : Nat, g = n - i ∧ iv = .int .i64 (i : Int) ∧ i ≤ n ∧ MkAt wx B m F N { s with V := s.V.del (ns.take i) } ∧ Oth (· = m.v) w wx)
  case atStart => exact ⟨0, rfl, rfl, Nat.zero_le _, H.out.1, Oth.refl _ _⟩
  case round =>
    obtain ⟨i, hg, rfl, hi, hM, hO⟩ := hrel
    by_cases hin : i < n
    · obtain ⟨y, hy⟩ : ∃ y, ns[i]? = some y := ⟨_, List.getElem?_eq_getElem (by rw [← H.out.2.2.2]; exact hin)⟩
      obtain ⟨g, rfl⟩ : ∃ g, a = some ⟨g, 0, none⟩ := by
        rcases H.out.2.1.2 with ⟨e, e0⟩ | ⟨g, c2, cur, e, _⟩
        · have := H.out.2.2.2; omega
        · cases e; exact ⟨g, rfl⟩
      have hgw := (World.ownsRow.lt H.out.2.1 g rfl).2
      have hcell : wr.cell? ⟨g, i, none⟩ = some (.string y) := by
        have h1 := World.ownsRow.cells H.out.2.1 (g := g) rfl i (.string y) (by simp [strVs, hy])
        have h2 := hO.cell (p := ⟨g, i, none⟩) hgw (H.out.2.2.1 g rfl)
        have ha : (⟨g, 0, none⟩ : Addr).add i = ⟨g, i, none⟩ := by unfold Addr.add; split <;> simp_all
        rw [h2, ← ha]
        exact h1
      have hys : y.size ≤ maxLen := by have := Hns.out y (List.mem_of_getElem? hy); unfold maxLen; omega
      have k0 := (hO.cell (p := ⟨bm, 0, none⟩) qm hbm).trans Hm0.out
      have k2 := hM.c2
      obtain ⟨S, hS, hSn⟩ := hM.vars
      have HS := Lib.hid (And.intro hS hSn)
      have HM := Lib.hid (And.intro hM (And.intro hO (And.intro hg hy)))
      have hin2 : (i : Int) < (n : Int) := by omega
      have hd1 : decide ((i : Int) < (n : Int)) = true := decide_eq_true hin2
      have hd2 : decide (i < n) = true := decide_eq_true hin
      clear hM hO hg hy hS hSn n0 m0
      go_wp2_with (at_delete; refine pm_del rfl _ _ rfl m.v S _ rfl HS.out.1 y rfl hys ?_; intro w5 hm5 hO5)
      have HG := Lib.hid (HM.out.1.putV hO5 hm5 (N' := N) (Nat.le_trans (List.length_filter_le _ _) HS.out.2) (fun z => by
        unfold GEnv.put
        split
        · exact zero12
        · exact HM.out.1.vreg z))
      have HO5 := Lib.hid (HM.out.2.1.trans hO5)
      clear hm5 hO5
      go_roundg (n - (i + 1))
      case measure => have := HM.out.2.2.1; omega
      case rel => exact ⟨i + 1, rfl, by go_num, hin, by rw [take_next HM.out.2.2.2, GEnv.del_snoc]; exact HG.out.1, HO5.out⟩
    · obtain rfl : n = i := by omega
      have HM := Lib.hid (And.intro hM hO)
      clear hin hM hO
      go_wp2_with fail
      refine bodyPost_end (results_none rfl _ _ _) rfl ?_
      refine ⟨rfl, ?_, GStep.same m HM.out.2 fun k e => .inr (.inl e)⟩
      have h1 := HM.out.1
      rw [List.take_of_length_le (by rw [← H.out.2.2.2]; exact Nat.le_refl _)] at h1
      exact h1
end Go.Proofs.YtgobcldecokppaaDoor
