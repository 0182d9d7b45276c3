/- names: a scope forgets all names but the first ones. -/
import Derived.Test.YtneibcpgengdnaaNmScope
namespace Go.Proofs.Ytneibcpgengdnaa
open Go.RowKit Go.Maps

theorem Oth.of_turned {w w' : World} {b : Nat} (h : w.mapTurned w' b) : Oth (· = b) w w' := by
  obtain ⟨es, clock, es', clock', _, rfl⟩ := h
  refine ⟨rfl, rfl, rfl, by simp [Go.ChangeMaps.setBlock], fun k hk hs => ?_⟩
  simp only [Go.ChangeMaps.setBlock]
  rw [Array.getElem?_setIfInBounds]
  rw [if_neg (fun e => hs e.symm)]
theorem kindOf_not {K : Known} {s : ByteArray} (h : s ∉ K.map (·.1)) : kindOf K s = 0 := by
  induction K with
  | nil => rfl
  | cons p K ih =>
    simp only [List.map_cons, List.mem_cons, not_or] at h
    have e : p.1 ≠ s := fun e => h.1 e.symm
    simp only [kindOf, if_neg e]
    exact ih h.2
theorem kindOf_drop (A B : Known) (p : ByteArray × Int) (hn : ((A ++ p :: B).map (·.1)).Nodup) (i : ByteArray) : (if i = p.1 then 0 else kindOf (A ++ p :: B) i) = kindOf (A ++ B) i := by
  induction A with
  | nil =>
    simp only [List.nil_append, List.map_cons, List.nodup_cons] at hn ⊢
    by_cases e : i = p.1
    · rw [if_pos e, e, kindOf_not hn.1]
    · have e2 : p.1 ≠ i := fun h => e h.symm
      rw [if_neg e]
      simp only [kindOf, if_neg e2]
  | cons q A ih =>
    simp only [List.cons_append, List.map_cons, List.nodup_cons] at hn
    simp only [List.cons_append, kindOf]
    rw [← ih hn.2]
    by_cases e : q.1 = i
    · subst e
      have hne : q.1 ≠ p.1 := fun h => hn.1 (by rw [h]; simp)
      simp [hne]
    · simp [e]
theorem take_drop_next {K : Known} {n j : Nat} {p : ByteArray × Int} (h : K[n + j]? = some p) : K.take n ++ K.drop (n + j) = K.take n ++ p :: K.drop (n + (j + 1)) := by
  have hlt := (List.getElem?_eq_some_iff.1 h).1
  rw [List.drop_eq_getElem_cons hlt, (List.getElem?_eq_some_iff.1 h).2, Nat.add_assoc]
set_option maxRecDepth 100000 in
set_option maxHeartbeats 2000000 in
theorem forget_any (c bk : Nat) (ov : Value) (K : Known) (n : Nat) (W : World) (h : ScAt W c bk ov K) (hn : n ≤ K.length) (hl : K.length ≤ 100000) :
    Calls Try.prog 64 #[ptrV c, .int .i64 (n : Int)] W (fun e W' => e = .returned (.tuple #[]) ∧ ∃ ov', ScAt W' c bk ov' (K.take n) ∧ Oth (ScT c bk ov) W W' ∧ ScNew W ov ov' ∧ ScKeep W W' c) := by
  have H := Lib.hid h
  obtain ⟨S, hm, hS, hSl⟩ := h.kinds
  have h0 := h.c0
  have h1 := h.c1
  have hf1 := h.f1
  have hlt := h.lt
  have q : c < W.heap.size := block_lt_of_cell h0
  obtain ⟨m, hmm⟩ : ∃ m, m = K.length := ⟨_, rfl⟩
  have hord := h.order
  have Hm := Lib.hid (And.intro hm (And.intro hS hSl))
  have hlen : (K.map (·.1)).length = K.length := by simp
  rcases hord.2 with ⟨rfl, hk0⟩ | ⟨g, vcap, cur, rfl, hg, hgh, hnv, hcm, hcs, htake⟩
  · have hK0 : K = [] := List.eq_nil_of_length_eq_zero (by rw [← hlen]; exact hk0)
    subst hK0
    obtain rfl : n = 0 := by simpa using hn
    clear hm hS hSl h hord
    go_enter Try.func64, Try.ntmps64
    go_wp2_with fail
    go_loopg [13] 0 (fun g jv wx => g = 0 ∧ jv = .int .i64 0 ∧ wx = W)
    case atStart => exact ⟨rfl, rfl, rfl⟩
    case round =>
      obtain ⟨hg, rfl, rfl⟩ := hrel
      go_wp2_with fail
      refine bodyPost_end (results_none rfl _ _ _) rfl ?_
      refine ⟨rfl, .slice none 0 0, ⟨?_, ?_, ?_, ⟨S, ?_, Hm.out.2.1, Hm.out.2.2⟩, ?_, H.out.good, hlt⟩, (Oth.refl _ _).set (p := ⟨c, 1, none⟩) (.inl rfl) _, fun k _ hk => hk, ScKeep.set rfl _⟩
      · exact (World.cell?_setCell_other _ _ _ _ (by simp)).trans h0
      · exact World.cell?_setCell_same' _ _ _ (by rw [h1]; rfl)
      · exact (World.frozen?_setCell _ _ _ _).trans hf1
      · exact Hm.out.1.at_block (Below.heap_setCell _ _ _ _ (by show bk ≠ c; omega))
      · exact ownsRow_setCell_below H.out.order (by show c < c + 1; omega) _
  · rw [hlen, ← hmm] at hnv
    rw [hlen] at h1
    rw [← hmm] at h1 hn hl
    have hgW := (Array.getElem?_eq_some_iff.1 hgh).1
    have Hord := Lib.hid (And.intro hord (And.intro hgh (And.intro hcs (And.intro htake hmm))))
    have hm62 : m ≤ 9223372036854775807 := by omega
    have hcm2 : vcap ≤ 9223372036854775807 := by have : maxLen ≤ 9223372036854775807 := by decide
                                                 omega
    have Hcm := Lib.hid hcm
    clear hm hS hSl h hord hgh hcs htake hmm hcm
    have hother : ∀ {w w5 : World} {v : Value}, w5 = w.setCell ⟨c, 1, none⟩ v → ∀ j, j ≠ c → w5.heap[j]? = w.heap[j]? := fun {w w5 v} e j hj => by rw [e]; exact Below.heap_setCell _ _ _ _ (fun e => hj (by rw [e]))
    have Hend : Hid (∀ w w5 : World, (∃ S, SMap w bk S (kindOf (K.take n)) ∧ (∀ x, x ∈ S ↔ x ∈ (K.take n).map (·.1)) ∧ S.length = (K.take n).length) → Oth (· = bk) W w → w5 = w.setCell ⟨c, 1, none⟩ (.slice (some ⟨g, 0, none⟩) n vcap) →
        ∃ ov', ScAt w5 c bk ov' (K.take n) ∧ Oth (ScT c bk (.slice (some ⟨g, 0, none⟩) (K.map (·.1)).length vcap)) W w5 ∧ ScNew W (.slice (some ⟨g, 0, none⟩) (K.map (·.1)).length vcap) ov' ∧ ScKeep W w5 c) := by
      intro w w5 hS hO hw5
      obtain ⟨S, s1, s2, s3⟩ := hS
      have e0 := (hO.cell (p := ⟨c, 0, none⟩) q (by show ¬ c = bk; omega)).trans h0
      have e1 := (hO.cell (p := ⟨c, 1, none⟩) q (by show ¬ c = bk; omega)).trans h1
      have ef := (hO.frozen (p := ⟨c, 1, none⟩) q (by show ¬ c = bk; omega)).trans hf1
      have hn2 : n ≤ K.length := by rw [← Hord.out.2.2.2.2]; exact hn
      refine ⟨.slice (some ⟨g, 0, none⟩) n vcap, ⟨?_, ?_, ?_, ⟨S, ?_, s2, s3⟩, ?_, ⟨?_, ?_⟩, hlt⟩, ?_, ?_, ?_⟩
      · rw [hw5]; exact (World.cell?_setCell_other _ _ _ _ (by simp)).trans e0
      · rw [hw5]; exact World.cell?_setCell_same' _ _ _ (by rw [e1]; rfl)
      · rw [hw5]; exact (World.frozen?_setCell _ _ _ _).trans ef
      · exact s1.at_block (hother hw5 bk (by omega))
      · refine ⟨by simp [strVs], .inr ⟨g, vcap, cur, by simp [Nat.min_eq_left hn2], hg, ?_, by simp; omega, ?_, Hord.out.2.2.1, ?_⟩⟩
        · rw [hother hw5 g (by omega), hO.block g hgW (by omega)]; exact Hord.out.2.1
        · exact Hcm.out
        · have h := Hord.out.2.2.2.1
          rw [hlen, Nat.mul_one] at h
          simp only [List.length_map, List.length_take, Nat.min_eq_left hn2, Nat.mul_one]
          have e : cur.toList.take n = (cur.toList.take K.length).take n := by rw [List.take_take, Nat.min_eq_left hn2]
          rw [e, h]
          simp [strVs, List.map_take]
      · intro p hp; exact H.out.good.1 p (List.mem_of_mem_take hp)
      · rw [List.map_take]; exact (List.take_sublist _ _).nodup H.out.good.2
      · refine (hO.imp fun k _ hk => .inr (.inl hk)).trans ?_
        rw [hw5]
        exact (Oth.refl _ _).set (p := ⟨c, 1, none⟩) (.inl rfl) _
      · intro k _ hk; exact hk
      · rw [hw5]; exact ScKeep.set (hO.block c q (by omega)) _
    clear hother
    have hgc : g ≠ bk := by omega
    have qc := q
    by_cases hnm : n = m
    · subst hnm
      have Hk : Hid (K.take n = K) := by show _ = _; rw [List.take_of_length_le (by rw [← Hord.out.2.2.2.2]; exact Nat.le_refl _)]
      go_enter Try.func64, Try.ntmps64
      go_wp2_with fail
      all_goals
        go_loopg [13] 0 (fun g jv wx => g = 0 ∧ jv = .int .i64 0 ∧ wx = W)
        case atStart => exact ⟨rfl, rfl, rfl⟩
        case round =>
          obtain ⟨hg, rfl, rfl⟩ := hrel
          go_wp2_with fail
          refine bodyPost_end (results_none rfl _ _ _) rfl ?_
          exact ⟨rfl, Hend.out _ _ ⟨S, by rw [Hk.out]; exact Hm.out.1, by rw [Hk.out]; exact Hm.out.2.1, by rw [Hk.out]; exact Hm.out.2.2⟩ (Oth.refl _ _) (by first | rfl | (have e : vcap = n := (by omega); rw [e]))⟩
    · have hvn : ¬ vcap = n := by omega
      go_enter Try.func64, Try.ntmps64
      go_wp2_with fail
      go_loopg [13] (m - n) (fun gg jv wx => ∃ j : Nat, gg = (m - n) - j ∧ jv = .int .i64 (j : Int) ∧ j ≤ m - n ∧ (∃ S, SMap wx bk S (kindOf (K.take n ++ K.drop (n + j))) ∧ (∀ x, x ∈ S ↔ x ∈ (K.take n ++ K.drop (n + j)).map (·.1)) ∧ S.length = (K.take n ++ K.drop (n + j)).length) ∧ Oth (· = bk) W wx)
      case atStart =>
        refine ⟨0, rfl, rfl, Nat.zero_le _, ⟨S, ?_, ?_, ?_⟩, Oth.refl _ _⟩
        all_goals rw [Nat.add_zero, List.take_append_drop]
        · exact Hm.out.1
        · exact Hm.out.2.1
        · exact Hm.out.2.2
      case round =>
        obtain ⟨j, hg2, rfl, hj, ⟨S2, s1, s2, s3⟩, hO⟩ := hrel
        have d0 := (hO.cell (p := ⟨c, 0, none⟩) qc (by show ¬ c = bk; omega)).trans h0
        have d1 := (hO.cell (p := ⟨c, 1, none⟩) qc (by show ¬ c = bk; omega)).trans h1
        have df := (hO.frozen (p := ⟨c, 1, none⟩) qc (by show ¬ c = bk; omega)).trans hf1
        have HS2 := Lib.hid (And.intro s1 (And.intro s2 s3))
        have HO := Lib.hid hO
        have Hg := Lib.hid hg2
        have qr := hO.size
        clear s1 s2 s3 hg2
        by_cases hjm : j < m - n
        · obtain ⟨p, hp⟩ : ∃ p, K[n + j]? = some p := ⟨_, List.getElem?_eq_getElem (by rw [← Hord.out.2.2.2.2]; omega)⟩
          have hcell : wr.cell? ⟨g, n + j, none⟩ = some (.string p.1) := by
            have h := World.ownsRow.cells Hord.out.1 (g := g) rfl (n + j) (.string p.1) (by simp [strVs, hp])
            have h2 := hO.cell (p := ⟨g, n + j, none⟩) hgW (by show ¬ g = bk; omega)
            have ha : (⟨g, 0, none⟩ : Addr).add (n + j) = ⟨g, n + j, none⟩ := by unfold Addr.add; split <;> simp_all
            rw [h2, ← ha]
            exact h
          have hps : p.1.size ≤ maxLen := by have := (H.out.good.1 p (List.mem_of_getElem? hp)).2; unfold maxLen; omega
          have e1 : (j : Int) < (m : Int) - (n : Int) := by omega
          have Hp := Lib.hid hp
          clear hp hO
          go_wp2_with (at_delete; refine sm_del (t := 87) Try.underlying87 rfl _ _ rfl bk S2 _ rfl HS2.out.1 p.1 rfl hps ?_; intro w5 hm5 ht5)
          have Hm5 := Lib.hid (And.intro hm5 ht5)
          clear hm5 ht5
          go_roundg ((m - n) - (j + 1))
          case measure => have := Hg.out; omega
          case rel =>
            have hnd : ((K.take n ++ p :: K.drop (n + (j + 1))).map (·.1)).Nodup := by
              rw [← take_drop_next Hp.out]
              refine List.Sublist.nodup ?_ H.out.good.2
              refine List.Sublist.map _ ?_
              conv => rhs; rw [← List.take_append_drop n K]
              exact List.Sublist.append_left (List.drop_sublist_drop_left K (Nat.le_add_right n j)) _
            have h2 := HS2.out
            rw [take_drop_next Hp.out] at h2
            have hS2n : S2.Nodup := by obtain ⟨D, _, h, _⟩ := h2.1; exact h
            have hpS : p.1 ∈ S2 := (h2.2.1 p.1).2 (by simp)
            have hpn : p.1 ∉ (K.take n ++ K.drop (n + (j + 1))).map (·.1) := by
              rw [List.map_append, List.map_cons, List.nodup_append] at hnd
              rw [List.map_append, List.mem_append]
              rintro (h | h)
              · exact hnd.2.2 _ h _ (by simp) rfl
              · exact (List.nodup_cons.1 hnd.2.1).1 h
            refine ⟨j + 1, rfl, by go_num, by omega, ⟨S2.filter fun i => decide (i ≠ p.1), ?_, ?_, ?_⟩, HO.out.trans (.of_turned Hm5.out.2)⟩
            · have h := Hm5.out.1
              have e : (fun i => if i = p.1 then 0 else kindOf (K.take n ++ K.drop (n + j)) i) = kindOf (K.take n ++ K.drop (n + (j + 1))) := by
                funext i
                rw [take_drop_next Hp.out]
                exact kindOf_drop _ _ _ hnd i
              rw [e] at h
              exact h
            · intro x
              rw [List.mem_filter, h2.2.1 x, decide_eq_true_eq]
              simp only [List.map_append, List.map_cons, List.mem_append, List.mem_cons] at hpn ⊢
              constructor
              · rintro ⟨h | h | h, hne⟩
                · exact .inl h
                · exact absurd h hne
                · exact .inr h
              · rintro (h | h)
                · exact ⟨.inl h, fun e => hpn (.inl (e ▸ h))⟩
                · exact ⟨.inr (.inr h), fun e => hpn (.inr (e ▸ h))⟩
            · have h5 := filter_len hS2n hpS
              have h6 := h2.2.2
              simp only [List.length_append, List.length_cons] at h6 ⊢
              omega
        · obtain rfl : j = m - n := by omega
          have e1 : ¬ (((m - n : Nat) : Int) < (m : Int) - (n : Int)) := by omega
          have Hk : Hid (K.take n ++ K.drop (n + (m - n)) = K.take n) := by show _ = _; rw [List.drop_of_length_le (by rw [← Hord.out.2.2.2.2]; omega), List.append_nil]
          clear hO
          go_wp2_with fail
          refine bodyPost_end (results_none rfl _ _ _) rfl ?_
          have h := HS2.out
          rw [Hk.out] at h
          exact ⟨rfl, Hend.out _ _ ⟨S2, h.1, h.2.1, h.2.2⟩ HO.out rfl⟩
end Go.Proofs.Ytneibcpgengdnaa
