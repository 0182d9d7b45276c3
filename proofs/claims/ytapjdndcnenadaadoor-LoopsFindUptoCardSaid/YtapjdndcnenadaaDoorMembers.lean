/- (graph).members: those of the loop of a head. -/
import Derived.Test.YtapjdndcnenadaaDoorComes
namespace Go.Proofs.YtapjdndcnenadaaDoor
open Go.RowKit Go.Maps

/-- Who lies in the loop of a head: the head, and all that come to a back edge's begin without passing it. -/
def MemP (code : List Ins) (h x : Int) : Prop := x = h ∨ Cl [h] (toI (backsE code) h) (toI (edgesL code)) x
theorem memCl_in {code : List Ins} {h x : Int} (hc : Cl [h] (toI (backsE code) h) (toI (edgesL code)) x) : InFn code x := by
  cases hc with
  | base h => exact (edge_in (backs_sub (toI_mem.1 h))).1
  | step _ _ h => exact (edge_in (toI_mem.1 h)).1
def RetMem (code : List Ins) (h : Int) (w : World) (e : Ending) (w' : World) : Prop :=
  ∃ b S, e = .returned (.map (some b)) ∧ w.heap.size ≤ b ∧ SetAt w' b S ∧ (∀ x, x ∈ S ↔ MemP code h x) ∧ Below w.heap.size w w'

theorem set_insert {w : World} {ops : Array Oper} {rest : List Oper} {o : Oper} {a : Act} {Q : Exit → Act → World → Prop} (hg : o.guard = none) (m x v : Operand) (hop : o.op = Op.insert 63 m x v) (b : Nat) (hm : a.eval m = .map (some b)) (hown : SetAt w b []) (y : Int) (hx : a.eval x = .int .i64 y) (hv : a.eval v = .agg #[])
    (hw : -9223372036854775808 ≤ y ∧ y ≤ 9223372036854775807) (hK : ∀ w', SetAt w' b [y] → w.grownBy w' (some b) → wpList Tryd.prog ops Q rest (a.put o.dst undef) w') : wpList Tryd.prog ops Q (o :: rest) a w := by
  obtain ⟨D, h, hn, hs, hh⟩ := hown
  refine wpList_plain hg fun K' hK' => ?_
  obtain ⟨w', hrun, h1, h2⟩ := h.update Tryd.intKey Tryd.underlying63 (by simp [maxLen]) (key := .int .i64 y) (kl := .int .i64 y) (keyOf_int_mk Tryd.underlying3 (WalkArith.wf_i64 hw)) (val := .agg #[]) unitElem_mk
  unfold Oper.wp
  simp [execOp, hop, hm, hx, hv, hrun, Result.andThen]
  refine hK' _ _ (hK w' ⟨D.put (.int .i64 y) (.agg []), ?_, by simp, ?_, ?_⟩ h2)
  · have e : Maps.size (D.put (.int .i64 y) (.agg [])) = 1 := by
      rw [size_put (h.tidy Tryd.intKey), hs]
      rw [if_neg (fun h => by obtain ⟨z, hz, e⟩ := (hh _).1 h; cases hz)]; rfl
    have h3 := owns_tight h1
    rw [e] at h3; exact h3
  · rw [size_put (h.tidy Tryd.intKey), hs]
    rw [if_neg (fun h => by obtain ⟨z, hz, e⟩ := (hh _).1 h; cases hz)]; rfl
  · intro kl
    rw [has_put_iff h.isMap, hh]
    constructor
    · rintro (rfl | ⟨x, hx, rfl⟩)
      · exact ⟨y, by simp, rfl⟩
      · cases hx
    · rintro ⟨x, hx, rfl⟩
      rw [List.mem_singleton.1 hx]; exact .inl rfl

set_option maxRecDepth 100000 in
set_option maxHeartbeats 4000000 in
theorem members_any (b0 : Nat) (code : List Ins) (v : Int) (w : World) (hg : GraphIn w b0 code) (hv : 0 ≤ v ∧ v < 1024) :
    Calls Tryd.prog 23 #[graphV b0, .int .i64 v] w (RetMem code v w) := by
  obtain ⟨Bg, Ng, V, hgg, hNg⟩ := hg
  have hlow : b0 + 3 ≤ Bg := hgg.low
  have hb0 : b0 + 1 < w.heap.size := (hgg.map 1 (by omega)).lt
  obtain ⟨W2, hW2⟩ : ∃ W2, W2 = (w.alloc (.cells #[.map (some b0), .map (some (b0 + 1)), .map (some (b0 + 2))] 59)).alloc (.map #[] 0) := ⟨_, rfl⟩
  have hb2 : Below w.heap.size w W2 := by rw [hW2]; exact ((Below.refl _ _).alloc (Nat.le_refl _) _).alloc (by (try simp only [World.size_alloc]); (try simp only [size_set]); omega) _
  have hs2 : W2.heap.size = w.heap.size + 2 := by rw [hW2]; simp
  have hset : SetAt W2 (w.heap.size + 1) [] := by
    have := SetAt.made (w.alloc (.cells #[.map (some b0), .map (some (b0 + 1)), .map (some (b0 + 2))] 59))
    rw [World.size_alloc] at this
    rw [hW2]; exact this
  have hbox : BoxG W2 w.heap.size b0 := by
    rw [hW2]
    exact (BoxG.box w b0 _).later ((Below.refl (w.heap.size + 1) _).alloc (by simp) _) (Nat.lt_succ_self _)
  have hl0 := toI_lenB code v
  have H0 := Lib.hid (And.intro hb2 (And.intro hset hbox))
  have HW2 := Lib.hid hW2
  have Hs2 := Lib.hid hs2
  have Hl0 := Lib.hid hl0
  have Hgg := Lib.hid hgg
  have hmm := @run_makeMap Tryd.prog
  have hv9 : -9223372036854775808 ≤ v ∧ v ≤ 9223372036854775807 := by omega
  clear hb2 hset hbox hW2 hs2 hl0 hNg hgg
  go_enter Tryd.func23, Tryd.ntmps23
  unfold graphV
  go_wp2_with (rw [← HW2.out]; refine set_insert rfl _ _ _ rfl (w.heap.size + 1) rfl H0.out.2.1 v rfl rfl hv9 ?_)
  intro w3 hS3 hg3
  have hk3 : Keep (w.heap.size + 2) (w.heap.size + 1) W2 w3 := (Keep.refl _ _ _).grown hg3 (by rw [Hs2.out]; exact Nat.le_refl _) (fun k e => by cases e; exact .inr rfl)
  have hb3 : Below w.heap.size w w3 := H0.out.1.trans (hk3.below (by omega) (by omega))
  have hbox3 : BoxG w3 w.heap.size b0 := H0.out.2.2.keep hk3 (by omega) (by omega)
  have hs3 : w.heap.size + 2 ≤ w3.heap.size := by have := hg3.size; rw [Hs2.out] at this; exact this
  have hG3 := Hgg.out.later hb3
  have hm3 := hG3.map 2 (by omega)
  have hsrc : IntsIn w3 (V 2 v) (toI (backsE code) v) := SliceIn.of_owns (by have := hG3.each 2 v (by omega); rw [gf_at2] at this; exact this)
  have hbo := hbox3.c2
  have hlt3 : w.heap.size < w3.heap.size := by omega
  obtain ⟨W2, hW2'⟩ : ∃ W2, W2 = w3 := ⟨_, rfl⟩
  subst hW2'
  have H := Lib.hid (And.intro Hgg.out (And.intro hb3 (And.intro hS3 hbox3)))
  have Hm2 := Lib.hid hm3
  have Hsrc := Lib.hid hsrc
  clear hS3 hg3 hk3 hb3 hbox3 hG3 hm3 hsrc hmm HW2 H0
  go_wp2_with (first | (at_lookup; refine gm_look rfl _ _ rfl (b0 + 2) Ng (V 2) rfl Hm2.out v rfl hv9 ?_) | (at_builtin; refine append_ints rfl _ _ rfl (w.heap.size + 2) _ [] rfl (World.ownsRow_nil _ _ _ _) _ _ rfl Hsrc.out (by simp; have := Hl0.out; omega) hs3 ?_))
  intro v6 w6 ho6 hg6 hf6 hb6
  have hbS : Below (w.heap.size + 2) W2 w6 := hb6 _ _ (Below.refl _ _) (Nat.le_refl _)
  have hs6 : w.heap.size + 2 ≤ w6.heap.size := Nat.le_trans hs3 hg6.size
  have H6 := Lib.hid (And.intro ho6 hbS)
  clear ho6 hg6 hf6 hb6 hbS hbo hs3 hlt3
  go_wp2_with fail
  go_loopg [6] (2049 * 1023 + (toI (backsE code) v).length) (fun gh q wi => ∃ S l, (gh = 2049 * (1024 - S.length) + l.length ∧ gh ≤ 10000000) ∧ CL w W2 wi b0 (w.heap.size + 1) (w.heap.size + 2) S l q ∧ WInv [v] (toI (backsE code) v) (toI (edgesL code)) S l)
  case atStart =>
    exact ⟨[v], _, ⟨by simp, by have := Hl0.out; omega⟩, ⟨H.out.2.2.1.later H6.out.2 (by omega), H6.out.1, Keep.of_below H6.out.2, hs6⟩, WInv.start _ _ _⟩
  case round =>
    obtain ⟨S, l, hg, hC, hI⟩ := hrel
    have hbw : Below w.heap.size w wr := H.out.2.1.trans (hC.keep.below (by omega) (by omega))
    have hbox : BoxG wr w.heap.size b0 := H.out.2.2.2.keep hC.keep (by omega) (by omega)
    have hbo := hbox.c0
    have hlt0 : w.heap.size < wr.heap.size := by have := hC.size; omega
    have Hg := Lib.hid hg
    have HC := Lib.hid hC
    have HI := Lib.hid hI
    have Hbw := Lib.hid hbw
    have Hbox := Lib.hid hbox
    clear hg hC hI hbw hbox
    rcases snoc_cases l with rfl | ⟨t, x, rfl⟩
    · have hn : u6 = .slice none 0 0 ∨ ∃ g c, u6 = .slice (some ⟨g, 0, none⟩) 0 c := by
        rcases HC.out.todo.form with ⟨h, _⟩ | ⟨g, c, h, _⟩
        · exact Or.inl h
        · exact Or.inr ⟨g, c, h⟩
      rcases hn with rfl | ⟨g, c, rfl⟩
      all_goals
        go_wp2_with fail
        go_ret
        exact ⟨_, S, rfl, by omega, HC.out.set, fun x => by rw [HI.out.done x, List.mem_singleton]; rfl, Hbw.out⟩
    · have hx := memCl_in (HI.out.todo x (by simp))
      have hx0 := hx.lo
      have hx1 : x < 1024 := by have := hx.hi; have := hx.has; omega
      have hform : ∃ g4 c4, u6 = .slice (some ⟨g4, 0, none⟩) (t.length + 1) c4 ∧ w.heap.size + 2 ≤ g4 ∧ g4 < wr.heap.size ∧ t.length + 1 ≤ c4 := by
        rcases HC.out.todo.form with ⟨_, h⟩ | ⟨g, c, h, h2⟩
        · simp at h
        · exact ⟨g, c, by simpa using h, by simpa using h2⟩
      obtain ⟨g4, c4, rfl, hg4, hg4s, hc4⟩ := hform
      have hcx : wr.cell? ⟨g4, t.length, none⟩ = some (.int .i64 x) := by
        have := HC.out.todo.cell (k := t.length) (by simp)
        simpa [List.getD] using this
      have hown := OwnInts.pop HC.out.todo rfl
      obtain ⟨n, hn⟩ : ∃ n, n = t.length := ⟨_, rfl⟩
      rw [← hn] at hcx hown hc4 ⊢
      obtain ⟨m, hm⟩ : ∃ m, m = n + 1 := ⟨_, rfl⟩
      have hm9 : m ≤ 20000000 := by have := Hg.out; simp at this; omega
      rw [← hm] at hc4 ⊢
      have hm1 : m - 1 = n := by omega
      rw [← hm1] at hcx hown
      have hm0 : 0 < m := by omega
      have Hn := Lib.hid hn
      have Hm := Lib.hid hm
      have Hown := Lib.hid hown
      have Hx := Lib.hid hx
      clear hn hm hm1 hown hx
      have HS := Lib.hid HC.out.set
      have HS2 : Hid (SetAt (wr.alloc (.cells #[] 64)) (w.heap.size + 1) S) := HS.out.alloc _
      have hSr : ∀ y ∈ S, 0 ≤ y ∧ y < (1024 : Nat) := fun y hy => by
        rcases HI.out.set y hy with h | h
        · rw [List.mem_singleton.1 h]; exact ⟨hv.1, by omega⟩
        · have := memCl_in h; have h1 := this.lo; have h2 := this.hi; have h3 := this.has; omega
      have hSl : S.length ≤ 1024 := set_small HS.out.nodup hSr
      have HSr := Lib.hid hSr
      clear hSr
      by_cases hmS : x ∈ S
      · have Hm2' := Lib.hid hmS
        have Hd : Hid (decide (x ∈ S) = true) := by show _ = _; simp [hmS]
        clear hmS
        go_wp2_with (at_lookup; refine set_look rfl _ _ rfl (w.heap.size + 1) S rfl HS.out x rfl (by omega) true Hd.out ?_)
        go_roundg (2049 * (1024 - S.length) + t.length)
        case measure => have := Hg.out; simp at this; omega
        case rel =>
          refine ⟨S, t, ⟨rfl, by have := Hg.out; simp at this; omega⟩, ⟨HS2.out, ?_, HC.out.keep.alloc HC.out.size _, by have := HC.out.size; simp; omega⟩, HI.out.skip Hm2'.out⟩
          have e := Hown.out
          rw [Hm.out, Nat.add_sub_cancel] at e
          have e2 := ownsRow_below e ((Below.refl _ _).alloc (Nat.le_refl _) (.cells #[] 64)) (Nat.le_refl _)
          rw [Hm.out, Nat.add_sub_cancel]
          exact e2
      · have Hm2' := Lib.hid hmS
        have Hd : Hid (decide (x ∈ S) = false) := by show _ = _; simp [hmS]
        have hSn : (insL S x).length = S.length + 1 := by simp [insL, hmS]
        have hSx : (insL S x).length ≤ 1024 := set_small (insL_nodup HS.out.nodup x) (fun y hy => by
          rcases (insL_mem _ _ _).1 hy with rfl | hy
          · exact ⟨hx0, hx1⟩
          · exact HSr.out y hy)
        have hlt : S.length < 1024 := by omega
        have hofl := toI_len2 code x
        have Hofl := Lib.hid hofl
        have Hg3 : Hid (GG wr b0 Bg Ng V (gf code (edgesL code))) := H.out.1.later Hbw.out
        clear hmS hSx
        go_wp2_with (first | (at_lookup; refine set_look rfl _ _ rfl (w.heap.size + 1) S rfl HS.out x rfl (by omega) false Hd.out ?_) | (at_mapUpdate; refine set_put rfl _ _ _ rfl (w.heap.size + 1) S rfl HS2.out x rfl rfl (by omega) (by omega) ?_))
        intro w4 hS4 hg4'
        have hk4 : Keep (w.heap.size + 2) (w.heap.size + 1) W2 w4 := (HC.out.keep.alloc HC.out.size _).grown hg4' (by have := HC.out.size; simp; omega) (fun k e => by cases e; exact .inr rfl)
        have hbw4 : Below w.heap.size w w4 := H.out.2.1.trans (hk4.below (by omega) (by omega))
        have hGG4 := H.out.1.later hbw4
        have hm4 := hGG4.map 0 (by omega)
        have hsrc4 : IntsIn w4 (V 0 x) (toI (edgesL code) x) := SliceIn.of_owns (by have := hGG4.each 0 x (by omega); rw [gf_at0] at this; exact this)
        have hbox4 := (Hbox.out.c0)
        have hs4 : wr.heap.size + 1 ≤ w4.heap.size := by have := hg4'.size; simp at this; exact this
        have hbo4 : w4.cell? ⟨w.heap.size, 0, none⟩ = some (.map (some b0)) := (H.out.2.2.2.keep hk4 (by omega) (by omega)).c0
        have hown4 : OwnInts w4 (w.heap.size + 2) (.slice (some ⟨g4, 0, none⟩) (m - 1) c4) t := by
          have e := Hown.out
          rw [Hm.out, Nat.add_sub_cancel] at e
          have e2 := ownsRow_below e ((Below.refl _ _).alloc (Nat.le_refl _) (.cells #[] 64)) (Nat.le_refl _)
          have e3 := World.ownsRow.kept e2 hg4' (.inr (by simp [Value.ownBlock]; omega))
          rw [Hm.out, Nat.add_sub_cancel]
          exact e3
        have Hm4 := Lib.hid hm4
        have Hsrc4 := Lib.hid hsrc4
        have Hown4 := Lib.hid hown4
        have H4 := Lib.hid (And.intro hS4 (And.intro hk4 hbw4))
        have hlt4 : w.heap.size < w4.heap.size := by omega
        have hB4 : w.heap.size + 2 ≤ w4.heap.size := by have := HC.out.size; omega
        have hx9 : -9223372036854775808 ≤ x ∧ x ≤ 9223372036854775807 := by omega
        have Hll : Hid (t.length + (toI (edgesL code) x).length ≤ 1000000000000) := by show _ ≤ _; have := Hofl.out; have := Hg.out; simp at this; omega
        clear hS4 hg4' hk4 hbw4 hGG4 hm4 hsrc4 hown4 hbox4 hs4
        go_wp2_with (first | (at_lookup; refine gm_look rfl _ _ rfl b0 Ng (V 0) rfl Hm4.out x rfl hx9 ?_) | (at_builtin; refine append_ints rfl _ _ rfl (w.heap.size + 2) _ t rfl Hown4.out _ _ rfl Hsrc4.out Hll.out hB4 ?_))
        intro v7 w7 ho7 hg7 hf7 hb7
        have hbB := hb7 (w.heap.size + 2) w4 (Below.refl _ _) (Nat.le_refl _)
        have H7 : Hid (CL w W2 w7 b0 (w.heap.size + 1) (w.heap.size + 2) (insL S x) (t ++ toI (edgesL code) x) v7) := ⟨H4.out.1.later hbB (by omega), ho7, H4.out.2.1.trans (Keep.of_below hbB), by have := hbB.size; omega⟩
        clear ho7 hg7 hf7 hb7 hbB
        go_wp2_with fail
        go_roundg (2049 * (1024 - (insL S x).length) + (t ++ toI (edgesL code) x).length)
        case measure => have h1 := Hg.out; have h2 := Hofl.out; simp only [List.length_append, List.length_singleton] at h1 ⊢; omega
        case rel =>
          refine ⟨_, _, ⟨rfl, ?_⟩, H7.out, HI.out.add Hm2'.out⟩
          · have h1 := Hg.out; have h2 := Hofl.out; simp only [List.length_append, List.length_singleton] at h1 ⊢; omega
end Go.Proofs.YtapjdndcnenadaaDoor
