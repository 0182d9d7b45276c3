/- (graph).comes: whether a way without back edges leads from an instruction to itself. -/
import Derived.Test.YtapjdndcnenadaaDoorRoundPlain
namespace Go.Proofs.YtapjdndcnenadaaDoor
open Go.RowKit

open Classical in
noncomputable def wayB (code : List Ins) (v : Int) : Bool := decide (Way (aheadE code) v v)
theorem wayB_true {code : List Ins} {v : Int} (h : Way (aheadE code) v v) : wayB code v = true := by unfold wayB; simp [h]
theorem wayB_false {code : List Ins} {v : Int} (h : ¬ Way (aheadE code) v v) : wayB code v = false := by unfold wayB; simp [h]
theorem wayB_iff {code : List Ins} {v : Int} : wayB code v = true ↔ Way (aheadE code) v v := by unfold wayB; simp
/-- The ends of an edge lie within the function, and can be reached. -/
structure InFn (code : List Ins) (x : Int) : Prop where
  lo : 0 ≤ x
  hi : x < code.length
  has : code.length ≤ 1024
  way : Rch code (-1) x.toNat
theorem edge_in {code : List Ins} {u v : Int} (h : (u, v) ∈ edgesL code) : InFn code u ∧ InFn code v := by
  obtain ⟨m1, m2, m3, m4, m5, mB, m7, m8⟩ := edgesL_mem h
  simp only at m1 m2 m3 m4 m5 m7 m8
  have : code.length ≤ 1024 := by have := mB; simp [hasB] at this; exact this.2
  exact ⟨⟨m1, m2, this, m7⟩, ⟨m3, m4, this, m8⟩⟩
theorem ahead_sub {code : List Ins} {e : Edge} (h : e ∈ aheadE code) : e ∈ edgesL code := (List.mem_filter.1 h).1
theorem backs_sub {code : List Ins} {e : Edge} (h : e ∈ backsE code) : e ∈ edgesL code := (List.mem_filter.1 h).1
theorem gf_at0 (code : List Ins) (y : Int) : gf code (edgesL code) 0 y = toI (edgesL code) y := rfl
theorem gf_at1 (code : List Ins) (y : Int) : gf code (edgesL code) 1 y = outI (aheadE code) y := rfl
theorem gf_at2 (code : List Ins) (y : Int) : gf code (edgesL code) 2 y = toI (backsE code) y := rfl
theorem cl_in {code : List Ins} {v x : Int} (h : Cl [] (outI (aheadE code) v) (outI (aheadE code)) x) : InFn code x := by
  cases h with
  | base h => exact (edge_in (ahead_sub (outI_mem.1 h))).2
  | step _ _ h => exact (edge_in (ahead_sub (outI_mem.1 h))).2
theorem outI_len2 (code : List Ins) (y : Int) : (outI (aheadE code) y).length ≤ 2048 :=
  Nat.le_trans (outI_len _ _) (Nat.le_trans (List.length_filter_le _ _) (edgesL_le code))
theorem toI_len2 (code : List Ins) (y : Int) : (toI (edgesL code) y).length ≤ 2048 := Nat.le_trans (toI_len _ _) (edgesL_le code)
theorem toI_lenB (code : List Ins) (y : Int) : (toI (backsE code) y).length ≤ 2048 := Nat.le_trans (toI_len _ _) (Nat.le_trans (List.length_filter_le _ _) (edgesL_le code))

/-- The graph's box in the call's memory. -/
structure BoxG (W : World) (k b0 : Nat) : Prop where
  c0 : W.cell? ⟨k, 0, none⟩ = some (.map (some b0))
  c1 : W.cell? ⟨k, 1, none⟩ = some (.map (some (b0 + 1)))
  c2 : W.cell? ⟨k, 2, none⟩ = some (.map (some (b0 + 2)))
theorem BoxG.box (w : World) (b0 : Nat) (t : TypeId) : BoxG (w.alloc (.cells #[.map (some b0), .map (some (b0 + 1)), .map (some (b0 + 2))] t)) w.heap.size b0 := by
  constructor <;> (rw [World.cell?_alloc_at _ _ _ _ rfl]; rfl)
theorem BoxG.later {W W' : World} {k b0 B : Nat} (h : BoxG W k b0) (hb : Below B W W') (hk : k < B) : BoxG W' k b0 :=
  ⟨(hb.cell hk).trans h.c0, (hb.cell hk).trans h.c1, (hb.cell hk).trans h.c2⟩
theorem BoxG.keep {W W' : World} {k b0 B b : Nat} (h : BoxG W k b0) (hb : Keep B b W W') (hk : k < B) (hn : k ≠ b) : BoxG W' k b0 :=
  ⟨(hb.cell (p := ⟨k, 0, none⟩) hk hn).trans h.c0, (hb.cell (p := ⟨k, 1, none⟩) hk hn).trans h.c1, (hb.cell (p := ⟨k, 2, none⟩) hk hn).trans h.c2⟩
/-- What a closure's loop keeps: the box, the set at b, the queue from block B on. -/
structure CL (w W2 W : World) (b0 b B : Nat) (S l : List Int) (v : Value) : Prop where
  set : SetAt W b S
  todo : OwnInts W B v l
  keep : Keep B b W2 W
  size : B ≤ W.heap.size

set_option maxRecDepth 100000 in
set_option maxHeartbeats 4000000 in
theorem comes_any (b0 : Nat) (code : List Ins) (v : Int) (w : World) (hg : GraphIn w b0 code) (hv : 0 ≤ v ∧ v < 1024) :
    Calls Tryd.prog 36 #[graphV b0, .int .i64 v] w (Gives (.bool (wayB code v)) w) := by
  obtain ⟨Bg, Ng, V, hgg, hNg⟩ := hg
  have hlow : b0 + 3 ≤ Bg := hgg.low
  have hb0 : b0 + 1 < w.heap.size := (hgg.map 1 (by omega)).lt
  obtain ⟨W2, hW2⟩ : ∃ W2, W2 = (w.alloc (.cells #[.map (some b0), .map (some (b0 + 1)), .map (some (b0 + 2))] 59)).alloc (.map #[] 0) := ⟨_, rfl⟩
  have hb2 : Below w.heap.size w W2 := by rw [hW2]; exact ((Below.refl _ _).alloc (Nat.le_refl _) _).alloc (by (try simp only [World.size_alloc]); (try simp only [size_set]); omega) _
  have hs2 : W2.heap.size = w.heap.size + 2 := by rw [hW2]; simp
  have hset : SetAt W2 (w.heap.size + 1) [] := by
    have := SetAt.made (w.alloc (.cells #[.map (some b0), .map (some (b0 + 1)), .map (some (b0 + 2))] 59))
    rw [World.size_alloc] at this
    rw [hW2]; exact this
  have hbox : BoxG W2 w.heap.size b0 := by
    rw [hW2]
    exact (BoxG.box w b0 _).later ((Below.refl (w.heap.size + 1) _).alloc (by simp) _) (Nat.lt_succ_self _)
  have hG2 := hgg.later hb2
  have hbo := hbox.c1
  have hm2 := hG2.map 1 (by omega)
  have hsrc : IntsIn W2 (V 1 v) (outI (aheadE code) v) := SliceIn.of_owns (by have := hG2.each 1 v (by omega); rw [gf_at1] at this; exact this)
  have hl0 := outI_len2 code v
  have H := Lib.hid (And.intro hgg (And.intro hb2 (And.intro hset hbox)))
  have Hm2 := Lib.hid hm2
  have Hsrc := Lib.hid hsrc
  have HW2 := Lib.hid hW2
  have Hs2 := Lib.hid hs2
  have Hl0 := Lib.hid hl0
  have hB2 : w.heap.size + 2 ≤ W2.heap.size := by omega
  have hmm := @run_makeMap Tryd.prog
  clear hgg hb2 hset hbox hG2 hm2 hsrc hW2 hs2 hl0 hNg
  go_enter Tryd.func36, Tryd.ntmps36
  unfold graphV
  go_wp2_with (first | (rw [← HW2.out]; at_lookup; refine gm_look rfl _ _ rfl (b0 + 1) Ng (V 1) rfl Hm2.out v rfl (by omega) ?_) | (at_builtin; refine append_ints rfl _ _ rfl (w.heap.size + 2) _ [] rfl (World.ownsRow_nil _ _ _ _) _ _ rfl Hsrc.out (by simp; have := Hl0.out; omega) hB2 ?_))
  intro v6 w6 ho6 hg6 hf6 hb6
  have hbS : Below (w.heap.size + 2) W2 w6 := hb6 _ _ (Below.refl _ _) (Nat.le_refl _)
  have hs6 : w.heap.size + 2 ≤ w6.heap.size := by have := hg6.size; omega
  have H6 := Lib.hid (And.intro ho6 hbS)
  clear ho6 hg6 hf6 hb6 hbS hbo hB2
  go_wp2_with fail
  go_loopg [6] (2049 * 1024 + (outI (aheadE code) v).length) (fun gh q wi => ∃ S l, (gh = 2049 * (1024 - S.length) + l.length ∧ gh ≤ 10000000) ∧ CL w W2 wi b0 (w.heap.size + 1) (w.heap.size + 2) S l q ∧ WInv [] (outI (aheadE code) v) (outI (aheadE code)) S l ∧ ¬ v ∈ S)
  case atStart =>
    exact ⟨[], _, ⟨by simp, by have := Hl0.out; omega⟩, ⟨H.out.2.2.1.later H6.out.2 (by omega), H6.out.1, Keep.of_below H6.out.2, hs6⟩, WInv.start _ _ _, by simp⟩
  case round =>
    obtain ⟨S, l, hg, hC, hI, hvS⟩ := hrel
    have hbw : Below w.heap.size w wr := H.out.2.1.trans (hC.keep.below (by omega) (by omega))
    have hbox : BoxG wr w.heap.size b0 := H.out.2.2.2.keep hC.keep (by omega) (by omega)
    have hbo := hbox.c1
    have hlt0 : w.heap.size < wr.heap.size := by have := hC.size; omega
    have Hg := Lib.hid hg
    have HC := Lib.hid hC
    have HI := Lib.hid hI
    have HvS := Lib.hid hvS
    have Hbw := Lib.hid hbw
    have Hbox := Lib.hid hbox
    clear hg hC hI hvS hbw hbox
    rcases snoc_cases l with rfl | ⟨t, x, rfl⟩
    · have hn : u6 = .slice none 0 0 ∨ ∃ g c, u6 = .slice (some ⟨g, 0, none⟩) 0 c := by
        rcases HC.out.todo.form with ⟨h, _⟩ | ⟨g, c, h, _⟩
        · exact Or.inl h
        · exact Or.inr ⟨g, c, h⟩
      have Hfin : Hid (wayB code v = false) := by
        refine wayB_false fun hw => ?_
        exact HvS.out ((HI.out.done v).2 (.inr (cl_way.2 hw)))
      rcases hn with rfl | ⟨g, c, rfl⟩
      all_goals
        go_wp2_with fail
        go_ret
        exact ⟨by rw [Hfin.out]; rfl, Hbw.out⟩
    · have hx := cl_in (HI.out.todo x (by simp))
      have hx0 := hx.lo
      have hx1 : x < 1024 := by have := hx.hi; have := hx.has; omega
      have hform : ∃ g4 c4, u6 = .slice (some ⟨g4, 0, none⟩) (t.length + 1) c4 ∧ w.heap.size + 2 ≤ g4 ∧ g4 < wr.heap.size ∧ t.length + 1 ≤ c4 := by
        rcases HC.out.todo.form with ⟨_, h⟩ | ⟨g, c, h, h2⟩
        · simp at h
        · exact ⟨g, c, by simpa using h, by simpa using h2⟩
      obtain ⟨g4, c4, rfl, hg4, hg4s, hc4⟩ := hform
      have hcx : wr.cell? ⟨g4, t.length, none⟩ = some (.int .i64 x) := by
        have := HC.out.todo.cell (k := t.length) (by simp)
        simpa [List.getD] using this
      have hown := OwnInts.pop HC.out.todo rfl
      obtain ⟨n, hn⟩ : ∃ n, n = t.length := ⟨_, rfl⟩
      rw [← hn] at hcx hown hc4 ⊢
      obtain ⟨m, hm⟩ : ∃ m, m = n + 1 := ⟨_, rfl⟩
      have hm9 : m ≤ 20000000 := by have := Hg.out; simp at this; omega
      rw [← hm] at hc4 ⊢
      have hm1 : m - 1 = n := by omega
      rw [← hm1] at hcx hown
      have hm0 : 0 < m := by omega
      have Hn := Lib.hid hn
      have Hm := Lib.hid hm
      have Hown := Lib.hid hown
      have Hx := Lib.hid hx
      clear hn hm hm1 hown hx
      by_cases hxv : x = v
      · have Hfin : Hid (wayB code v = true) := by
          exact wayB_true (by have := cl_way.1 (HI.out.todo x (by simp)); rw [hxv] at this; exact this)
        have hq : (x == v) = true := by simp [hxv]
        clear hxv
        go_wp2_with fail
        go_ret
        exact ⟨by rw [Hfin.out]; rfl, Hbw.out⟩
      · have hq : (x == v) = false := by simp [hxv]
        have HS := Lib.hid HC.out.set
        have HS2 : Hid (SetAt (wr.alloc (.cells #[] 64)) (w.heap.size + 1) S) := HS.out.alloc _
        have Hxv := Lib.hid hxv
        have hSr : ∀ y ∈ S, 0 ≤ y ∧ y < (1024 : Nat) := fun y hy => by
          rcases HI.out.set y hy with h | h
          · cases h
          · have := cl_in h; have h1 := this.lo; have h2 := this.hi; have h3 := this.has; omega
        have hSl : S.length ≤ 1024 := set_small HS.out.nodup hSr
        have HSr := Lib.hid hSr
        clear hxv hSr
        by_cases hmS : x ∈ S
        · have Hm2' := Lib.hid hmS
          have Hd : Hid (decide (x ∈ S) = true) := by show _ = _; simp [hmS]
          clear hmS
          go_wp2_with (at_lookup; refine set_look rfl _ _ rfl (w.heap.size + 1) S rfl HS.out x rfl (by omega) true Hd.out ?_)
          go_roundg (2049 * (1024 - S.length) + t.length)
          case measure => have := Hg.out; simp at this; omega
          case rel =>
            refine ⟨S, t, ⟨rfl, by have := Hg.out; simp at this; omega⟩, ⟨HS2.out, ?_, HC.out.keep.alloc HC.out.size _, by have := HC.out.size; simp; omega⟩, HI.out.skip Hm2'.out, HvS.out⟩
            have e := Hown.out
            rw [Hm.out, Nat.add_sub_cancel] at e
            have e2 := ownsRow_below e ((Below.refl _ _).alloc (Nat.le_refl _) (.cells #[] 64)) (Nat.le_refl _)
            rw [Hm.out, Nat.add_sub_cancel]
            exact e2
        · have Hm2' := Lib.hid hmS
          have Hd : Hid (decide (x ∈ S) = false) := by show _ = _; simp [hmS]
          have hSn : (insL S x).length = S.length + 1 := by simp [insL, hmS]
          have hSx : (insL S x).length ≤ 1024 := set_small (insL_nodup HS.out.nodup x) (fun y hy => by
            rcases (insL_mem _ _ _).1 hy with rfl | hy
            · exact ⟨hx0, hx1⟩
            · exact HSr.out y hy)
          have hlt : S.length < 1024 := by omega
          have hofl := outI_len2 code x
          have Hofl := Lib.hid hofl
          have Hg3 : Hid (GG wr b0 Bg Ng V (gf code (edgesL code))) := H.out.1.later Hbw.out
          clear hmS hSx
          go_wp2_with (first | (at_lookup; refine set_look rfl _ _ rfl (w.heap.size + 1) S rfl HS.out x rfl (by omega) false Hd.out ?_) | (at_mapUpdate; refine set_put rfl _ _ _ rfl (w.heap.size + 1) S rfl HS2.out x rfl rfl (by omega) (by omega) ?_))
          intro w4 hS4 hg4'
          have hk4 : Keep (w.heap.size + 2) (w.heap.size + 1) W2 w4 := (HC.out.keep.alloc HC.out.size _).grown hg4' (by have := HC.out.size; simp; omega) (fun k e => by cases e; exact .inr rfl)
          have hbw4 : Below w.heap.size w w4 := H.out.2.1.trans (hk4.below (by omega) (by omega))
          have hGG4 := H.out.1.later hbw4
          have hm4 := hGG4.map 1 (by omega)
          have hsrc4 : IntsIn w4 (V 1 x) (outI (aheadE code) x) := SliceIn.of_owns (by have := hGG4.each 1 x (by omega); rw [gf_at1] at this; exact this)
          have hbox4 := (Hbox.out.c1)
          have hs4 : wr.heap.size + 1 ≤ w4.heap.size := by have := hg4'.size; simp at this; exact this
          have hbo4 : w4.cell? ⟨w.heap.size, 1, none⟩ = some (.map (some (b0 + 1))) := (H.out.2.2.2.keep hk4 (by omega) (by omega)).c1
          have hown4 : OwnInts w4 (w.heap.size + 2) (.slice (some ⟨g4, 0, none⟩) (m - 1) c4) t := by
            have e := Hown.out
            rw [Hm.out, Nat.add_sub_cancel] at e
            have e2 := ownsRow_below e ((Below.refl _ _).alloc (Nat.le_refl _) (.cells #[] 64)) (Nat.le_refl _)
            have e3 := World.ownsRow.kept e2 hg4' (.inr (by simp [Value.ownBlock]; omega))
            rw [Hm.out, Nat.add_sub_cancel]
            exact e3
          have Hm4 := Lib.hid hm4
          have Hsrc4 := Lib.hid hsrc4
          have Hown4 := Lib.hid hown4
          have H4 := Lib.hid (And.intro hS4 (And.intro hk4 hbw4))
          have hlt4 : w.heap.size < w4.heap.size := by omega
          have hB4 : w.heap.size + 2 ≤ w4.heap.size := by have := HC.out.size; omega
          have hx9 : -9223372036854775808 ≤ x ∧ x ≤ 9223372036854775807 := by omega
          have Hll : Hid (t.length + (outI (aheadE code) x).length ≤ 1000000000000) := by show _ ≤ _; have := Hofl.out; have := Hg.out; simp at this; omega
          clear hS4 hg4' hk4 hbw4 hGG4 hm4 hsrc4 hown4 hbox4 hs4
          go_wp2_with (first | (at_lookup; refine gm_look rfl _ _ rfl (b0 + 1) Ng (V 1) rfl Hm4.out x rfl hx9 ?_) | (at_builtin; refine append_ints rfl _ _ rfl (w.heap.size + 2) _ t rfl Hown4.out _ _ rfl Hsrc4.out Hll.out hB4 ?_))
          intro v7 w7 ho7 hg7 hf7 hb7
          have hbB := hb7 (w.heap.size + 2) w4 (Below.refl _ _) (Nat.le_refl _)
          have H7 : Hid (CL w W2 w7 b0 (w.heap.size + 1) (w.heap.size + 2) (insL S x) (t ++ outI (aheadE code) x) v7) := ⟨H4.out.1.later hbB (by omega), ho7, H4.out.2.1.trans (Keep.of_below hbB), by have := hbB.size; omega⟩
          clear ho7 hg7 hf7 hb7 hbB
          go_wp2_with fail
          go_roundg (2049 * (1024 - (insL S x).length) + (t ++ outI (aheadE code) x).length)
          case measure => have h1 := Hg.out; have h2 := Hofl.out; simp only [List.length_append, List.length_singleton] at h1 ⊢; omega
          case rel =>
            refine ⟨_, _, ⟨rfl, ?_⟩, H7.out, HI.out.add Hm2'.out, fun hm => ?_⟩
            · have h1 := Hg.out; have h2 := Hofl.out; simp only [List.length_append, List.length_singleton] at h1 ⊢; omega
            · rcases (insL_mem _ _ _).1 hm with e | e
              · exact Hxv.out e.symm
              · exact HvS.out e
end Go.Proofs.YtapjdndcnenadaaDoor
