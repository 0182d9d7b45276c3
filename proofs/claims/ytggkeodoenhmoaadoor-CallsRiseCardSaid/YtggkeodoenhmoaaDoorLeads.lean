/- calls.leads: to which functions each one leads. -/
import Derived.Test.YtggkeodoenhmoaaDoorLeadPlain
namespace Go.Proofs.YtggkeodoenhmoaaDoor
open Go.RowKit

theorem Tryd.infoSet : (Tryd.prog.info? 47).map (fun i => (i.zero, i.size, i.bytes)) = some (some (.map none), 1, 8) := by kernel_rfl
abbrev mapV (b : Nat) : Value := .map (some b)
/-- The blocks bs, from block B on, are the sets of those to which each one leads. -/
def SetsAt (F : List FR) (w : World) (B : Nat) (bs : List Nat) : Prop := ∀ (k b : Nat), bs[k]? = some b → B ≤ b ∧ b < w.heap.size ∧ ∃ S, SetAt w b S ∧ ∀ x, x ∈ S ↔ Lead F k x
theorem SetsAt.keep {F : List FR} {w w' : World} {B C c : Nat} {bs : List Nat} (h : SetsAt F w B bs) (hk : Keep C c w w') (hC : w.heap.size ≤ C) (hc : w.heap.size ≤ c) : SetsAt F w' B bs := fun k b hb => by
  obtain ⟨h1, h2, S, ⟨D, ⟨es, clock, hh, r2⟩, r⟩, h3⟩ := h k b hb
  exact ⟨h1, Nat.lt_of_lt_of_le h2 hk.size, S, ⟨D, ⟨es, clock, (hk.block b (by omega) (by omega)).trans hh, r2⟩, r⟩, h3⟩
theorem SetsAt.kept {F : List FR} {w w' : World} {B : Nat} {bs : List Nat} (h : SetsAt F w B bs) (hb : ∀ b, B ≤ b → b < w.heap.size → w'.heap[b]? = w.heap[b]?) (hs : w.heap.size ≤ w'.heap.size) : SetsAt F w' B bs := fun k b hk => by
  obtain ⟨h1, h2, S, ⟨D, ⟨es, clock, hh, r2⟩, r⟩, h3⟩ := h k b hk
  exact ⟨h1, Nat.lt_of_lt_of_le h2 hs, S, ⟨D, ⟨es, clock, (hb b h1 h2).trans hh, r2⟩, r⟩, h3⟩
theorem SetsAt.kept2 {F : List FR} {w w' : World} {B : Nat} {bs : List Nat} (h : SetsAt F w B bs) (hb : ∀ (k b : Nat), bs[k]? = some b → w'.heap[b]? = w.heap[b]?) (hs : w.heap.size ≤ w'.heap.size) : SetsAt F w' B bs := fun k b hk => by
  obtain ⟨h1, h2, S, ⟨D, ⟨es, clock, hh, r2⟩, r⟩, h3⟩ := h k b hk
  exact ⟨h1, Nat.lt_of_lt_of_le h2 hs, S, ⟨D, ⟨es, clock, (hb k b hk).trans hh, r2⟩, r⟩, h3⟩
theorem SetsAt.snoc {F : List FR} {w : World} {B b : Nat} {bs : List Nat} {S : List Int} (h : SetsAt F w B bs) (hB : B ≤ b) (hS : SetAt w b S) (hL : ∀ x, x ∈ S ↔ Lead F (bs.length : Nat) x) : SetsAt F w B (bs ++ [b]) := fun k c hk => by
  by_cases hl : k < bs.length
  · rw [List.getElem?_append_left hl] at hk
    exact h k c hk
  · rw [List.getElem?_append_right (by omega)] at hk
    have h0 : k = bs.length := by
      have := (List.getElem?_eq_some_iff.1 hk).1; simp at this; omega
    subst h0
    have e : b = c := by simpa using hk
    subst e
    exact ⟨hB, hS.lt, S, hS, hL⟩
theorem Keep.rowAt {B b C g n m cap : Nat} {w w' : World} (h : Keep C b w w') {e : TypeId} {size : Nat} {xs : List Value} (ho : w.ownsRow B e size (.slice (some ⟨g, 0, none⟩) m cap) n xs) (h1 : g < C) (h2 : g ≠ b) : w'.ownsRow B e size (.slice (some ⟨g, 0, none⟩) m cap) n xs := by
  obtain ⟨h3, h4⟩ := ho
  refine ⟨h3, ?_⟩
  rcases h4 with h4 | ⟨g', cap', cur, hv, hg, hh, r⟩
  · exact .inl h4
  · cases hv
    exact .inr ⟨g, cap, cur, rfl, hg, by rw [h.block g h1 h2]; exact hh, r⟩
def RetLeads (F : List FR) (w : World) (e : Ending) (w' : World) : Prop :=
  ∃ v bs, e = .returned v ∧ w'.ownsRow w.heap.size 47 1 v bs.length (bs.map mapV) ∧ bs.length = F.length ∧ SetsAt F w' w.heap.size bs ∧ Below w.heap.size w w'

/-- 'make([]map[int]struct {}, n)'. -/
theorem make_maps {ops : Array Oper} {rest : List Oper} {o : Oper} {a : Act} {Q : Exit → Act → World → Prop} {w : World} (hgd : o.guard = none) (l c : Operand)
    (ho : o.op = Op.makeSlice 60 l c) (B n : Nat) (hl : a.eval l = .int .i64 (n : Int)) (hc : a.eval c = .int .i64 (n : Int)) (hn : n ≤ 35184372088832) (hB : B ≤ w.heap.size)
    (h : ∀ w', w'.ownsRow B 47 1 (.slice (some ⟨w.heap.size, 0, none⟩) n n) n (List.replicate n (.map none)) → w.grownBy w' none → wpList Tryd.prog ops Q rest (a.put o.dst (.slice (some ⟨w.heap.size, 0, none⟩) n n)) w') : wpList Tryd.prog ops Q (o :: rest) a w := by
  obtain ⟨i0, hi0, hz0, hz1, hz2⟩ := info_parts Tryd.infoSet
  refine wpList_make_full w hgd l c 60 ho B 47 i0 (.map none) 1 Tryd.underlying60 hi0 hz0 hz1 .i64 .i64 n n n hl hc rfl rfl (by rw [hz2]; omega) (by unfold maxLen; omega) hB fun w' h1 h2 => h w' ?_ h2
  have e : (madeCells (Value.map none).cells (n * 1)).toList = List.replicate n (.map none) := by
    rw [show (Value.map none).cells = #[.map none] from rfl, toList_madeCells_one]; simp
  rwa [e] at h1

theorem set_middle {α : Type} (l : List α) (x y : α) (n : Nat) : (l ++ List.replicate (n + 1) y).set l.length x = (l ++ [x]) ++ List.replicate n y := by
  rw [List.set_append_right _ _ (Nat.le_refl _), Nat.sub_self, List.replicate_succ]; simp

set_option maxRecDepth 100000 in
set_option maxHeartbeats 4000000 in
theorem leads_any (vt vf : Value) (F : List FR) (w : World) (hF : FuncsIn w vf F) (hw : WordsIn w) (hn32 : F.length ≤ 32) :
    Calls Tryd.prog 20 #[modV vt vf] w (RetLeads F w) := by
  have hF0 := hF
  obtain ⟨-, af, cf, hvf, -⟩ := hF.row
  subst hvf
  obtain ⟨n, hn⟩ : ∃ n, n = F.length := ⟨_, rfl⟩
  rw [← hn] at hn32 ⊢
  have HF := Lib.hid hF0
  have Hw := Lib.hid hw
  have Hn := Lib.hid hn
  have hmm := @run_makeMap Tryd.prog
  clear hF hF0 hw hn
  go_enter Tryd.func20, Tryd.ntmps20
  go_wp2_with (at_make; refine make_maps rfl _ _ rfl (w.heap.size + 1) n rfl rfl (by omega) (by (try simp only [World.size_alloc]); (try simp only [size_set]); omega) ?_)
  intro w1 hrow hg1
  have hm1 : ModAt w1 w.heap.size vt (.slice af n cf) := (ModAt.box w vt _ _).later (Below.grown (Below.refl (w.heap.size + 1) _) hg1 (by (try simp only [World.size_alloc]); (try simp only [size_set]); omega) (by intro k hk; cases hk)) (Nat.lt_succ_self _)
  have hb1 : Below w.heap.size w w1 := Below.grown ((Below.refl _ _).alloc (Nat.le_refl _) _) hg1 (by (try simp only [World.size_alloc]); (try simp only [size_set]); omega) (by intro k hk; cases hk)
  have hs1 : w.heap.size + 2 ≤ w1.heap.size := by
    have := (World.ownsRow.lt hrow _ rfl).2; simp at this; omega
  obtain ⟨m0, m1⟩ := hm1
  have H1 := Lib.hid (And.intro hrow (And.intro (And.intro m0 m1) hb1))
  clear hrow hb1 hg1
  go_wp2_with fail
  go_loopw [16] (fun i wr => ∃ (f : Nat) (bs : List Nat), f ≤ n ∧ i = .int .i64 f ∧ bs.length = f ∧ wr.ownsRow (w.heap.size + 1) 47 1 (.slice (some ⟨w.heap.size + 1, 0, none⟩) n n) n (bs.map mapV ++ List.replicate (n - f) (Value.map none)) ∧
    SetsAt F wr (w.heap.size + 2) bs ∧ ModAt wr w.heap.size vt (.slice af n cf) ∧ Below w.heap.size w wr ∧ w.heap.size + 2 ≤ wr.heap.size) (fun i _ => n - (intOf i).toNat)
  case atStart =>
    exact ⟨0, [], Nat.zero_le _, rfl, rfl, by simpa using H1.out.1, fun k b h => by simp at h, ⟨H1.out.2.1.1, H1.out.2.1.2⟩, H1.out.2.2, hs1⟩
  case round =>
    obtain ⟨f, bs, hf, rfl, hbl, hrow, hsets, hm, hb, hs⟩ := hrel
    obtain ⟨m0, m1⟩ := hm
    by_cases hfn : f < n
    · have hc := World.ownsRow.cellAt hrow f (by omega)
      have hfz := World.ownsRow.frozenAt hrow f
      have hcf : wr.cell? ⟨w.heap.size + 1, f, none⟩ = some (.map none) := by
        rw [hc, List.getElem?_append_right (by simp; omega)]
        rw [List.getElem?_replicate]; simp; omega
      have hlt0 : w.heap.size < wr.heap.size := by omega
      have hlt1 : w.heap.size + 1 < wr.heap.size := by omega
      have hst := (World.ownsRow.stored hrow f (mapV wr.heap.size)).1
      have hbf : Hid (Below (w.heap.size + 1) wr ((wr.setCell ⟨w.heap.size + 1, f, none⟩ (mapV wr.heap.size)).alloc (.map #[] 0))) := ((Below.refl _ _).setCell (by show w.heap.size + 1 ≤ w.heap.size + 1; omega) _).alloc (by rw [size_set]; omega) _
      obtain ⟨Wa, hWa⟩ : ∃ Wa, Wa = (wr.setCell ⟨w.heap.size + 1, f, none⟩ (mapV wr.heap.size)).alloc (.map #[] 0) := ⟨_, rfl⟩
      rw [← hWa] at hbf
      have hsa : Wa.heap.size = wr.heap.size + 1 := by rw [hWa, World.size_alloc, size_set]
      have hseta : SetAt Wa wr.heap.size [] := by
        rw [hWa]
        have := SetAt.made (wr.setCell ⟨w.heap.size + 1, f, none⟩ (mapV wr.heap.size))
        rwa [size_set] at this
      have hrowa : Wa.ownsRow (w.heap.size + 1) 47 1 (.slice (some ⟨w.heap.size + 1, 0, none⟩) n n) n ((bs ++ [wr.heap.size]).map mapV ++ List.replicate (n - (f + 1)) (Value.map none)) := by
        rw [hWa]
        have h2 := World.ownsRow.alloc hst (.map #[] 0)
        have e : (bs.map mapV ++ List.replicate (n - f) (Value.map none)).set f (mapV wr.heap.size) = (bs ++ [wr.heap.size]).map mapV ++ List.replicate (n - (f + 1)) (Value.map none) := by
          have := set_middle (bs.map mapV) (mapV wr.heap.size) (Value.map none) (n - (f + 1))
          rw [show n - (f + 1) + 1 = n - f by omega, List.length_map, hbl] at this
          rw [this]; simp
        rw [← e]; exact h2
      have hsetsa : SetsAt F Wa (w.heap.size + 2) bs := hsets.kept (fun b h1 h2 => by
        rw [hWa, Below.heap_alloc _ _ _ (by rw [size_set]; omega), Below.heap_setCell _ _ _ _ (by show b ≠ w.heap.size + 1; omega)]) (by omega)
      have hma : ModAt Wa w.heap.size vt (.slice af n cf) := ModAt.later ⟨m0, m1⟩ hbf.out (by omega)
      have hba : Below w.heap.size w Wa := hb.trans (hbf.out.mono (by omega))
      have hFa : FuncsIn Wa (.slice af n cf) F := by have := HF.out.later hba; rw [← Hn.out] at this; exact this
      have hwa := Hw.out.next hba
      have Ha := Lib.hid (And.intro hsa (And.intro hseta (And.intro hrowa (And.intro hsetsa (And.intro hma (And.intro hba (And.intro hFa hwa)))))))
      have HWa := Lib.hid hWa
      have Hbl := Lib.hid hbl
      have Hlt : Hid (∀ (k b' : Nat), bs[k]? = some b' → b' < wr.heap.size) := fun k b' hk => (hsets k b' hk).2.1
      clear hsa hseta hrowa hsetsa hma hba hFa hwa hWa hbl hc hst hrow hsets hb hbf
      go_wp2_with fail
      rw [← HWa.out]
      refine (of_any vt _ F (f : Int) _ Ha.out.2.2.2.2.2.2.1 Ha.out.2.2.2.2.2.2.2).mono ?_
      rintro e w2 ⟨v2, rfl, hv2, hb2⟩
      obtain ⟨hsa, hseta, hrowa, hsetsa, hma, hba, hFa, hwa⟩ := Ha.out
      obtain ⟨b, hbe⟩ : ∃ b, b = wr.heap.size := ⟨_, rfl⟩
      obtain ⟨B, hBe⟩ : ∃ B, B = Wa.heap.size := ⟨_, rfl⟩
      rw [← hbe] at hseta hrowa Hlt
      rw [← hBe] at hv2
      have H2 : Hid (OwnQ w2 B v2 (ofFn F f) ∧ SetAt w2 b [] ∧ Below B Wa w2 ∧ B = b + 1 ∧ Wa.heap.size = B) := ⟨OwnQ.of_owns hv2, hseta.later hb2 (by omega), by rw [hBe]; exact hb2, by omega, hBe.symm⟩
      have Ha' : Hid (Wa.ownsRow (w.heap.size + 1) 47 1 (.slice (some ⟨w.heap.size + 1, 0, none⟩) n n) n ((bs ++ [b]).map mapV ++ List.replicate (n - (f + 1)) (Value.map none)) ∧ SetsAt F Wa (w.heap.size + 2) bs ∧ ModAt Wa w.heap.size vt (.slice af n cf) ∧ Below w.heap.size w Wa ∧ FuncsIn Wa (.slice af n cf) F ∧ WordsIn Wa ∧ ∀ (k b' : Nat), bs[k]? = some b' → b' < b) := ⟨hrowa, hsetsa, hma, hba, hFa, hwa, Hlt.out⟩
      have hB1 : b < B := by omega
      have hB2 : B ≤ b + 1 := by omega
      have hb1 : w.heap.size + 2 ≤ b := by omega
      clear hsa hseta hrowa hsetsa hma hba hFa hwa hv2 hb2 hbe hBe Ha HWa hmm
      go_wp2_with fail
      go_loopg [5] (1025 * n + (ofFn F f).length) (fun gh v wi => ∃ S l, (gh = 1025 * (n - S.length) + l.length ∧ gh ≤ 100000) ∧ OwnQ wi B v l ∧ SetAt wi b S ∧ LInv F f S l ∧ Keep B b Wa wi ∧ B ≤ wi.heap.size)
      case atStart => exact ⟨[], _, ⟨by simp, by have := ofFn_len F f; omega⟩, H2.out.1, H2.out.2.1, LInv.start F f, Keep.of_below H2.out.2.2.1, by have := H2.out.2.2.1.size; have := H2.out.2.2.2.2; omega⟩
      case round =>
        obtain ⟨S, l, hg, hq, hS, hinv, hkp, hsz⟩ := hrel
        have hba : Below w.heap.size w wr := Ha'.out.2.2.2.1.trans (hkp.below (by omega) (by omega))
        have hsWa := H2.out.2.2.2.2
        have hr := hkp.rowAt Ha'.out.1 (by omega) (by omega)
        obtain ⟨m0, m1⟩ := Ha'.out.2.2.1.keep hkp (by omega) (by omega)
        have hcf : wr.cell? ⟨w.heap.size + 1, f, none⟩ = some (mapV b) := by
          rw [World.ownsRow.cellAt hr f (by omega), List.getElem?_append_left (by simp; have := Hbl.out; omega), List.map_append, List.getElem?_append_right (by simp; have := Hbl.out; omega)]
          simp [Hbl.out]
        have hlt1 : w.heap.size + 1 < wr.heap.size := by omega
        have hlt0 : w.heap.size < wr.heap.size := by omega
        have Hg := Lib.hid hg
        have Hinv := Lib.hid hinv
        have Hkp := Lib.hid hkp
        have HS := Lib.hid hS
        have Hba := Lib.hid hba
        have Hr := Lib.hid hr
        clear hg hinv hkp hS hba hr
        cases l with
        | nil =>
          have hn5 : u5 = .slice none 0 0 ∨ ∃ g off c, u5 = .slice (some ⟨g, off, none⟩) 0 c := by
            rcases hq with ⟨h, _⟩ | ⟨g, off, c, h, _⟩
            · exact .inl h
            · exact .inr ⟨g, off, c, h⟩
          have Hout : Hid (SetsAt F wr (w.heap.size + 2) (bs ++ [b])) := by
            refine SetsAt.snoc (S := S) (Ha'.out.2.1.kept2 (fun k b' hk => Hkp.out.block b' (by have := Ha'.out.2.2.2.2.2.2 k b' hk; omega) (by have := Ha'.out.2.2.2.2.2.2 k b' hk; omega)) Hkp.out.size) (by omega) HS.out (fun x => ?_)
            rw [Hbl.out]; exact Hinv.out.done x
          clear hq
          rcases hn5 with rfl | ⟨g5, o5, c5, rfl⟩
          all_goals
            go_wp2_with fail
            go_roundw
            case rel => exact ⟨f + 1, bs ++ [b], by omega, by go_num, by simp [Hbl.out], Hr.out, Hout.out, ⟨m0, m1⟩, Hba.out, by omega⟩
            case measure => simp [intOf]; omega
        | cons x l =>
          have hform : ∃ a5 l5 c5, u5 = .slice a5 l5 c5 := by
            rcases hq with ⟨h, _⟩ | ⟨g, off, c, h, _⟩
            · exact ⟨_, _, _, h⟩
            · exact ⟨_, _, _, h⟩
          obtain ⟨a5, l5, c5, rfl⟩ := hform
          obtain ⟨rfl, g5, o5, rfl, hg5, hg5s, hcap, hmax, hcx⟩ := hq.head
          have htl := hq.tail
          have hxr := (Hinv.out.todoL x (by simp)).range
          rw [← Hn.out] at hxr
          have hSl : S.length ≤ n := set_small HS.out.nodup (fun y hy => by have := (Hinv.out.setL y hy).range; rw [← Hn.out] at this; exact this)
          have HS2 : Hid (SetAt (wr.alloc (.cells #[] 51)) b S) := HS.out.alloc _
          obtain ⟨nl, hnl⟩ : ∃ nl, nl = l.length := ⟨_, rfl⟩
          rw [← hnl] at hcap htl hq ⊢
          simp only [Nat.add_sub_cancel] at htl
          have hl0 : 0 < nl + 1 := by omega
          have Hlen : Hid (l.length ≤ 1000000000) := by show _ ≤ _; have := Hg.out; simp at this; omega
          suffices hsuff : ∀ (o6 : Nat), ((c5 = 1 ∧ o6 = o5 ∧ nl = 0) ∨ (¬ c5 = 1 ∧ o6 = o5 + 1)) → OwnQ wr B (.slice (some ⟨g5, o6, none⟩) nl (c5 - 1)) l → _ by
            by_cases hc1 : c5 = 1
            · refine hsuff o5 (.inl ⟨hc1, rfl, by omega⟩) ?_
              have h0 : l = [] := List.eq_nil_of_length_eq_zero (by omega)
              subst h0; subst hc1; subst hnl
              rcases hq with ⟨h, _⟩ | ⟨g', o', c', hv, h1, h2, h3, h4, h5, h6, h7⟩
              · cases h
              · cases hv
                exact .inr ⟨g5, o5, 0, rfl, h1, h2, Nat.le_refl _, by omega, fun j hj => by omega, h6, fun j u hu => by simp [intVs] at hu⟩
            · exact hsuff (o5 + 1) (.inr ⟨hc1, rfl⟩) htl
          have Hnl := Lib.hid hnl
          clear hq htl hnl
          intro o6 ho6 htl
          have Htl := Lib.hid htl
          clear htl
          by_cases hm : x ∈ S
          · have Hm := Lib.hid hm
            have Hd : Hid (decide (x ∈ S) = true) := by show _ = _; simp [hm]
            clear hm
            rcases ho6 with ⟨rfl, rfl, rfl⟩ | ⟨hc1, rfl⟩
            all_goals
              go_wp2_with (at_lookup; refine set_look rfl _ _ rfl b S rfl HS.out x rfl (by omega) true Hd.out ?_)
              go_roundg (1025 * (n - S.length) + l.length)
              case measure => have := Hg.out; simp at this; omega
              case rel => exact ⟨S, l, ⟨rfl, by have := Hg.out; simp at this; omega⟩, Htl.out.later ((Below.refl _ _).alloc (Nat.le_refl _) _) (Nat.le_refl _), HS2.out, Hinv.out.skip Hm.out, Hkp.out.alloc hsz _, by simp; omega⟩
          · have Hm := Lib.hid hm
            have Hd : Hid (decide (x ∈ S) = false) := by show _ = _; simp [hm]
            have hSn : (insL S x).length = S.length + 1 := by simp [insL, hm]
            have hSx : (insL S x).length ≤ n := set_small (insL_nodup HS.out.nodup x) (fun y hy => by
              rcases (insL_mem _ _ _).1 hy with rfl | hy
              · exact hxr
              · have := (Hinv.out.setL y hy).range; rw [← Hn.out] at this; exact this)
            have hlt : S.length < n := by omega
            have HQ2 : Hid (OwnQ (wr.alloc (.cells #[] 51)) B (.slice (some ⟨g5, o6, none⟩) nl (c5 - 1)) l) := Htl.out.later ((Below.refl _ _).alloc (Nat.le_refl _) _) (Nat.le_refl _)
            have HK2 : Hid (Keep B b Wa (wr.alloc (.cells #[] 51))) := Hkp.out.alloc hsz _
            have hofl := ofFn_len F x
            have Hofl := Lib.hid hofl
            clear hm hSx
            rcases ho6 with ⟨rfl, rfl, rfl⟩ | ⟨hc1, rfl⟩
            all_goals
              go_wp2_with (first | (at_lookup; refine set_look rfl _ _ rfl b S rfl HS.out x rfl (by omega) false Hd.out ?_) | (at_mapUpdate; refine set_put rfl _ _ _ rfl b S rfl HS2.out x rfl rfl (by omega) (by omega) ?_))
              intro w4 hS4 hg4
              have hk4 : Keep B b Wa w4 := HK2.out.grown hg4 (by simp; omega) (fun k e => by cases e; exact .inr rfl)
              obtain ⟨p0, p1⟩ := Ha'.out.2.2.1.keep hk4 (by omega) (by omega)
              have hba4 : Below w.heap.size w w4 := Ha'.out.2.2.2.1.trans (hk4.below (by omega) (by omega))
              have H4 : Hid (FuncsIn w4 (.slice af n cf) F ∧ WordsIn w4) := by
                refine ⟨?_, Hw.out.next hba4⟩
                have := HF.out.later hba4
                rwa [← Hn.out] at this
              have hs4 : wr.heap.size + 1 ≤ w4.heap.size := by have := hg4.size; simp at this; exact this
              have hq4 := HQ2.out.kept hg4 (by omega)
              have H4' := Lib.hid (And.intro hS4 (And.intro hk4 hq4))
              clear hS4 hk4 hq4 hg4 hba4
              go_wp2_with fail
              refine (of_any vt _ F x _ H4.out.1 H4.out.2).mono ?_
              rintro e w5 ⟨v5, rfl, hv5, hb5⟩
              obtain ⟨hS4, hk4, hq4⟩ := H4'.out
              have hq5 := hq4.later hb5 (Nat.le_refl _)
              have hS5 := hS4.later hb5 hS4.lt
              have hk5 : Keep B b Wa w5 := hk4.trans (Keep.of_below (hb5.mono (by omega)))
              have hs5 : w4.heap.size ≤ w5.heap.size := hb5.size
              have Hsrc : Hid (IntsIn w5 v5 (ofFn F x)) := SliceIn.of_owns hv5
              have H5 := Lib.hid (And.intro hq5 (And.intro hS5 hk5))
              have Hll : Hid (l.length + (ofFn F x).length ≤ 1000000000000) := by have := Hlen.out; show _ ≤ _; have := Hofl.out; omega
              have hB5 : B ≤ w5.heap.size := by omega
              clear hS4 hk4 hq4 hq5 hS5 hk5 hb5 hv5
              go_wp2_with (at_builtin; refine append_q rfl _ _ rfl B _ l rfl H5.out.1 _ (ofFn F x) rfl Hsrc.out Hll.out hB5 ?_)
              intro v6 w6 hq6 hb6
              have hbB := hb6 B w5 (Below.refl _ _) (by omega)
              have hk6 : Keep B b Wa w6 := H5.out.2.2.trans (Keep.of_below hbB)
              have hS6 : SetAt w6 b (insL S x) := H5.out.2.1.later hbB (by omega)
              have hs6 : B ≤ w6.heap.size := by have := hbB.size; omega
              have H6 := Lib.hid (And.intro hq6 (And.intro hS6 hk6))
              clear hq6 hb6 hbB hk6 hS6
              go_wp2_with fail
              go_roundg (1025 * (n - (insL S x).length) + (l ++ ofFn F x).length)
              case measure => have h1 := Hg.out; have h2 := Hofl.out; simp only [List.length_cons] at h1; simp only [List.length_append]; omega
              case rel => exact ⟨_, _, ⟨rfl, by have h1 := Hg.out; have h2 := Hofl.out; simp only [List.length_cons] at h1; simp only [List.length_append]; omega⟩, H6.out.1, H6.out.2.1, Hinv.out.add, H6.out.2.2, hs6⟩
    · have ef : f = n := by omega
      subst ef
      have hrow' : wr.ownsRow (w.heap.size + 1) 47 1 (.slice (some ⟨w.heap.size + 1, 0, none⟩) f f) f (bs.map mapV) := by simpa using hrow
      have Hr := Lib.hid (And.intro hrow' (And.intro hsets (And.intro hb hbl)))
      clear hrow hrow' hsets hb hbl
      go_wp2_with fail
      go_ret
      obtain ⟨h1, h2, h3, h4⟩ := Hr.out
      refine ⟨_, bs, rfl, ?_, by rw [h4]; exact Hn.out, fun k b hk => ?_, h3⟩
      · rw [h4]; exact ownsRow_mono h1 (by omega)
      · obtain ⟨h5, h6, h7⟩ := h2 k b hk
        exact ⟨by omega, h6, h7⟩
end Go.Proofs.YtggkeodoenhmoaaDoor
