/- tree.Nodes and R2.Nodes. -/
import Derived.Test.YtneibcpgengdnaaTrRSt
namespace Go.Proofs.Ytneibcpgengdnaa
open Go.RowKit

def Fn.count : List Fn → Nat
  | [] => 0
  | f :: l => St.totals f.body + Fn.count l
theorem Fn.count_snoc (l : List Fn) (x : Fn) : Fn.count (l ++ [x]) = Fn.count l + St.totals x.body := by
  induction l with
  | nil => simp [Fn.count]
  | cons y l ih => simp only [List.cons_append, Fn.count, ih]; omega
theorem Fn.count_take {l : List Fn} {i : Nat} {x : Fn} (h : l[i]? = some x) : Fn.count (l.take (i + 1)) = Fn.count (l.take i) + St.totals x.body := by rw [take_next h, Fn.count_snoc]
theorem Fn.count_le {l : List Fn} (i : Nat) : Fn.count (l.take i) ≤ Fn.count l := by
  induction l generalizing i with
  | nil => simp
  | cons y l ih => cases i with
    | zero => simp [Fn.count]
    | succ i => simp only [List.take_succ_cons, Fn.count]; have := ih i; omega
set_option maxRecDepth 100000 in
set_option maxHeartbeats 2000000 in
theorem nodes_any (p : Pg) (vw vf : Value) (vp vb : Nat → Value) (w : World) (h : PgIn w p vw vf vp vb) : Calls Try.prog 32 #[pgV vw vf] w (Gives (.int .i64 (upto (Fn.count p.funcs) : Nat)) w) := by
  obtain ⟨hw, hr, hpp, hbb⟩ := h
  obtain ⟨-, aw, cw, rfl, -⟩ := hw
  obtain ⟨a, cap, rfl, hncap, hcap⟩ := hr.form
  obtain ⟨n, hn⟩ : ∃ n, n = p.funcs.length := ⟨_, rfl⟩
  have hn62 : n ≤ 9223372036854775807 := by have : maxLen ≤ 9223372036854775807 := by decide
                                            omega
  obtain ⟨nw, hnw⟩ : ∃ n, n = p.widen.length := ⟨_, rfl⟩
  have Hn := Lib.hid hn
  have Hrow : Hid (RowOf w (.slice a n cap) p.funcs.length 3 (fun b o i => ∀ x, p.funcs[i]? = some x → FnCells w b o x (vp i) (vb i))) := by rw [hn]; exact hr
  have Hf := Lib.hid (And.intro hpp hbb)
  obtain ⟨W0, hW0⟩ : ∃ W0, W0 = (w.alloc (.cells #[.slice aw nw cw, .slice a n cap] 26)).alloc (.cells #[.int .i64 0] 106) := ⟨_, rfl⟩
  have hs0 : W0.heap.size = w.heap.size + 2 := by rw [hW0]; simp
  have hb0 : Below w.heap.size w W0 := by rw [hW0]; exact ((Below.refl _ _).alloc (Nat.le_refl _) _).alloc (by (try simp only [World.size_alloc]); (try simp only [size_set]); omega) _
  have hc0 : CAt W0 (w.heap.size + 1) 0 := by
    rw [hW0]
    refine ⟨?_, ?_, by omega⟩
    · exact World.cell?_alloc_at _ _ _ _ (by simp)
    · exact World.frozen?_alloc_at _ _ _ _ (by simp)
  have H0 := Lib.hid (And.intro hs0 (And.intro hb0 hc0))
  have HW0 := Lib.hid hW0
  rw [← hn] at hncap ⊢
  rw [← hnw]
  unfold pgV
  clear hr hpp hbb hn hnw hs0 hb0 hc0 hW0
  go_enter Try.func32, Try.ntmps32
  go_wp2_with fail
  rw [← HW0.out]
  obtain ⟨c, hc⟩ : ∃ c, c = w.heap.size + 1 := ⟨_, rfl⟩
  rw [← hc] at H0 ⊢
  have hcw : w.heap.size < c := by omega
  have hcW : c < W0.heap.size := by have := H0.out.1; omega
  clear hc HW0
  go_loopg [9] n (fun g iv wx => ∃ i : Nat, g = n - i ∧ iv = .int .i64 (i : Int) ∧ i ≤ n ∧ CAt wx c (upto (Fn.count (p.funcs.take i))) ∧ Oth (· = c) W0 wx)
  case atStart => exact ⟨0, rfl, rfl, Nat.zero_le _, by simpa [Fn.count, upto] using H0.out.2.2, Oth.refl _ _⟩
  case round =>
    obtain ⟨i, hg, rfl, hi, hC, hO⟩ := hrel
    have HO := Lib.hid hO
    have hB : Below w.heap.size w wr := H0.out.2.1.trans (hO.below (by omega) fun _ e => by omega)
    by_cases hin : i < n
    · obtain ⟨x, hx⟩ : ∃ x, p.funcs[i]? = some x := ⟨_, List.getElem?_eq_getElem (by rw [← Hn.out]; exact hin)⟩
      obtain ⟨b, off, rfl, hb, hP⟩ := Hrow.out.at (i := i) (by rw [← Hn.out]; exact hin)
      have hfc := (hP x hx).later hB hb
      obtain ⟨ap, cp, hvp, -⟩ := (Hf.out.1 i x hx).form
      obtain ⟨ab, cb, hvb, -⟩ := (Hf.out.2 i x hx).form
      have hct := stmts_any _ _ _ (Hf.out.2 i x hx)
      obtain ⟨np, hnp⟩ : ∃ n, n = x.params.length := ⟨_, rfl⟩
      obtain ⟨nb, hnb⟩ : ∃ n, n = x.body.length := ⟨_, rfl⟩
      rw [hvb, ← hnb] at hct
      rw [hvp, hvb, ← hnp, ← hnb] at hfc
      obtain ⟨i0, i1, i2⟩ := hfc
      obtain ⟨W1, hW1⟩ : ∃ W1, W1 = wr.alloc (.cells #[.string x.name, .slice ap np cp, .slice ab nb cb] 40) := ⟨_, rfl⟩
      have hC1 : CAt W1 c (upto (Fn.count (p.funcs.take i))) := by rw [hW1]; exact hC.later ((Below.refl _ _).alloc (Nat.le_refl _) _)
      have hO1 : Oth (· = c) wr W1 := by rw [hW1]; exact (Oth.refl _ _).alloc _
      have hB1 : Below w.heap.size w W1 := hB.trans (hO1.below hB.size fun _ e => by omega)
      have H1 := Lib.hid (And.intro hC1 (And.intro hO1 (And.intro hB1 (And.intro hct hx))))
      have HW1 := Lib.hid hW1
      have q0 := hB.size
      have Hg := Lib.hid hg
      clear hC hO hB hP hx hct hvp hvb hnp hnb hC1 hO1 hB1 hW1 hg
      go_wp2_with fail
      rw [← HW1.out]
      refine (H1.out.2.2.2.1 W1 c _ H1.out.2.2.1 (by omega) H1.out.1).mono ?_
      rintro e w3 ⟨rfl, hC3, hO3⟩
      rw [upto_add] at hC3
      have H3 := Lib.hid (And.intro hC3 (H1.out.2.1.trans hO3))
      clear hC3 hO3 i0 i1 i2
      go_wp2_with fail
      go_roundg (n - (i + 1))
      case measure => have := Hg.out; omega
      case rel => exact ⟨i + 1, rfl, by go_num, hin, by rw [Fn.count_take H1.out.2.2.2.2]; exact H3.out.1, HO.out.trans H3.out.2⟩
    · obtain rfl : n = i := by omega
      have Hres : Hid (Fn.count (p.funcs.take n) = Fn.count p.funcs) := by show _ = _; rw [List.take_of_length_le (by rw [← Hn.out]; exact Nat.le_refl _)]
      have hcell := hC.cell
      have hle := upto_le (Fn.count (p.funcs.take n))
      rw [Hres.out] at hcell hle
      obtain ⟨r, hr⟩ : ∃ r, r = upto (Fn.count p.funcs) := ⟨_, rfl⟩
      rw [← hr] at hcell hle
      have HB := Lib.hid hB
      have Hr := Lib.hid hr
      clear hin hC hO hB hr
      go_wp2_with fail
      go_ret
      exact ⟨by rw [← Hr.out]; rfl, HB.out⟩
set_option maxRecDepth 100000 in
set_option maxHeartbeats 2000000 in
theorem rnodes_any (p : Pg) (vw vf : Value) (vp vb : Nat → Value) (w : World) (h : PgIn w p vw vf vp vb) : Calls Try.prog 65 #[pgV vw vf] w (Gives (.int .i64 (upto (Fn.count p.funcs) : Nat)) w) := by
  obtain ⟨hw, hr, hpp, hbb⟩ := h
  obtain ⟨-, aw, cw, rfl, -⟩ := hw
  obtain ⟨a, cap, rfl, hncap, hcap⟩ := hr.form
  obtain ⟨n, hn⟩ : ∃ n, n = p.funcs.length := ⟨_, rfl⟩
  have hn62 : n ≤ 9223372036854775807 := by have : maxLen ≤ 9223372036854775807 := by decide
                                            omega
  obtain ⟨nw, hnw⟩ : ∃ n, n = p.widen.length := ⟨_, rfl⟩
  have Hn := Lib.hid hn
  have Hrow : Hid (RowOf w (.slice a n cap) p.funcs.length 3 (fun b o i => ∀ x, p.funcs[i]? = some x → FnCells w b o x (vp i) (vb i))) := by rw [hn]; exact hr
  have Hf := Lib.hid (And.intro hpp hbb)
  obtain ⟨W0, hW0⟩ : ∃ W0, W0 = w.alloc (.cells #[.slice aw nw cw, .slice a n cap] 26) := ⟨_, rfl⟩
  have hs0 : W0.heap.size = w.heap.size + 1 := by rw [hW0]; simp
  have hb0 : Below w.heap.size w W0 := by rw [hW0]; exact (Below.refl _ _).alloc (Nat.le_refl _) _
  have hv0 : W0.cell? ⟨w.heap.size, 1, none⟩ = some (.slice a n cap) := by rw [hW0]; exact World.cell?_alloc_at _ _ _ _ rfl
  have H0 := Lib.hid (And.intro hs0 (And.intro hb0 hv0))
  have HW0 := Lib.hid hW0
  rw [← hn] at hncap ⊢
  rw [← hnw]
  unfold pgV
  have hwW : w.heap.size < W0.heap.size := by omega
  clear hr hpp hbb hn hnw hs0 hb0 hv0 hW0
  go_enter Try.func65, Try.ntmps65
  go_wp2_with fail
  rw [← HW0.out]
  clear HW0
  go_loopg [3, 4] n (fun g mv iv wx => ∃ i m : Nat, g = n - i ∧ iv = .int .i64 (i : Int) ∧ mv = .int .i64 (m : Int) ∧ i ≤ n ∧ Acc (Fn.count (p.funcs.take i)) 4096 3 m ∧ Below W0.heap.size W0 wx)
  case atStart => exact ⟨0, 0, rfl, rfl, rfl, Nat.zero_le _, by simp [Fn.count, Acc], Below.refl _ _⟩
  case round =>
    obtain ⟨i, m, hg, rfl, rfl, hi, hm, hO⟩ := hrel
    have HO := Lib.hid hO
    have hml : m ≤ 4099 := by unfold Acc at hm; omega
    have Hm := Lib.hid hm
    have hB : Below w.heap.size w wr := H0.out.2.1.trans (hO.mono (by omega))
    have hv := (hO.cell (p := ⟨w.heap.size, 1, none⟩) (by show w.heap.size < _; omega)).trans H0.out.2.2
    have Hg := Lib.hid hg
    have q1 := hO.size
    clear hm hO hg
    by_cases hin : i < n
    · by_cases hmle : m ≤ 4096
      · obtain ⟨x, hx⟩ : ∃ x, p.funcs[i]? = some x := ⟨_, List.getElem?_eq_getElem (by rw [← Hn.out]; exact hin)⟩
        obtain ⟨b, off, rfl, hb, hP⟩ := Hrow.out.at (i := i) (by rw [← Hn.out]; exact hin)
        have hfc := (hP x hx).later hB hb
        obtain ⟨ab, cb, hvb, -⟩ := (Hf.out.2 i x hx).form
        have hct := rstmts_any _ _ _ (Hf.out.2 i x hx)
        obtain ⟨nb, hnb⟩ : ∃ n, n = x.body.length := ⟨_, rfl⟩
        rw [hvb, ← hnb] at hct
        rw [hvb, ← hnb] at hfc
        obtain ⟨i0, i1, i2⟩ := hfc
        have H1 := Lib.hid (And.intro hct (And.intro hx hB))
        clear hB hP hx hct hvb hnb i0 i1
        go_wp2_with fail
        refine (H1.out.1 wr (4096 - m) H1.out.2.2 (by omega) (by omega)).mono ?_
        rintro e w3 ⟨r, rfl, hr, hb3⟩
        have hrl : (r : Int) ≤ 4096 - m + 3 := by unfold CutN Acc at hr; omega
        have hr2 : Acc (Fn.count (p.funcs.take (i + 1))) 4096 3 (m + r) := by rw [Fn.count_take H1.out.2.1]; exact Hm.out.sub hr
        have H3 := Lib.hid (And.intro hr2 (HO.out.trans (hb3.mono HO.out.size)))
        clear hr hr2 hb3 i2 hv
        go_wp2_with fail
        go_roundg (n - (i + 1))
        case measure => have := Hg.out; omega
        case rel => exact ⟨i + 1, m + r, rfl, by go_num, by go_num, hin, H3.out.1, H3.out.2⟩
      · have Hres : Hid (upto (Fn.count p.funcs) = 4097) := by
          show _ = _
          have h1 := Hm.out
          have h2 := Fn.count_le (l := p.funcs) i
          unfold Acc upto at *
          omega
        have HB := Lib.hid hB
        clear hB
        go_wp2_with fail
        go_ret
        exact ⟨by rw [Hres.out]; rfl, HB.out⟩
    · obtain rfl : n = i := by omega
      have Hres : Hid (upto (Fn.count p.funcs) = if m ≤ 4096 then m else 4097) := by
        show _ = _
        have h1 := Hm.out
        rw [List.take_of_length_le (by rw [← Hn.out]; exact Nat.le_refl _)] at h1
        unfold Acc upto at *
        split <;> omega
      have HB := Lib.hid hB
      clear hB
      by_cases hm2 : m ≤ 4096
      · go_wp2_with fail
        go_ret
        exact ⟨by rw [Hres.out, if_pos hm2]; rfl, HB.out⟩
      · go_wp2_with fail
        go_ret
        exact ⟨by rw [Hres.out, if_neg hm2]; rfl, HB.out⟩
end Go.Proofs.Ytneibcpgengdnaa
