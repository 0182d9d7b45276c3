/- names: what a walk over statements may change, and what stays. -/
import Derived.Test.YtgobcldecokppaaDoorNmFine
import Derived.StillTailTactics
import Derived.Deep.RegionWith
import Derived.BigQuiet
import Derived.Deep.QuietTactic
/- names: the walker at an expression. -/
namespace Go.Proofs.YtgobcldecokppaaDoor
open Go.RowKit Go.Maps

/-- The numbers of the functions that some names call. -/
def idxs (G : List ByteArray) (l : List ByteArray) (i : Int) : Prop := ∃ (k : Nat) (s : ByteArray), i = (k : Int) ∧ G[k]? = some s ∧ s ∈ l
theorem idxs_append (G l m : List ByteArray) (i : Int) : idxs G (l ++ m) i ↔ idxs G l i ∨ idxs G m i := by
  unfold idxs
  constructor
  · rintro ⟨k, s, h1, h2, h3⟩
    rcases List.mem_append.1 h3 with h | h
    · exact .inl ⟨k, s, h1, h2, h⟩
    · exact .inr ⟨k, s, h1, h2, h⟩
  · rintro (⟨k, s, h1, h2, h3⟩ | ⟨k, s, h1, h2, h3⟩)
    · exact ⟨k, s, h1, h2, List.mem_append.2 (.inl h3)⟩
    · exact ⟨k, s, h1, h2, List.mem_append.2 (.inr h3)⟩
def NExprOk (w0 : World) (l : List Ex) (v : Value) : Prop := ∀ x : Ex, x.args = l → x.short → ∀ (W : World) (c bk bf bc : Nat) (ov : Value) (K : Known) (G : List ByteArray) (C : List Int) (n loops : Int), Below w0.heap.size w0 W → w0.heap.size ≤ bf → WAt W c bk bf bc ov K G C n loops →
  Calls Tryd.prog 70 #[ptrV c, exVal x v] W (fun e W' => e = .returned (.int .i64 (x.nerr K G)) ∧ ∃ C', WAt W' c bk bf bc ov K G C' n loops ∧ Oth (· = bc) W W' ∧ (x.nerr K G = 0 → ∀ i, i ∈ C' ↔ i ∈ C ∨ idxs G x.ncalls i))
theorem ScAt.later {w w' : World} {c bk : Nat} {ov : Value} {K : Known} (h : ScAt w c bk ov K) (hb : Below w.heap.size w w') : ScAt w' c bk ov K := by
  have q := block_lt_of_cell h.c0
  obtain ⟨S, s1, s2⟩ := h.kinds
  exact ⟨(hb.cell (p := ⟨c, 0, none⟩) q).trans h.c0, (hb.cell (p := ⟨c, 1, none⟩) q).trans h.c1, (hb.frozen (p := ⟨c, 1, none⟩) q).trans h.f1, ⟨S, s1.later hb s1.lt, s2⟩, ownsRow_below h.order hb (Nat.le_refl _), h.good, h.lt⟩
theorem WAt.later1 {w w' : World} {c bk bf bc : Nat} {ov : Value} {K : Known} {G : List ByteArray} {C : List Int} {n loops : Int} (h : WAt w c bk bf bc ov K G C n loops) (hb : Below w.heap.size w w') : WAt w' c bk bf bc ov K G C n loops := by
  have q := block_lt_of_cell h.c2
  obtain ⟨S, F, s1, s2⟩ := h.funcs
  exact ⟨h.sc.later hb, (hb.cell (p := ⟨c, 2, none⟩) q).trans h.c2, (hb.cell (p := ⟨c, 3, none⟩) q).trans h.c3, (hb.cell (p := ⟨c, 4, none⟩) q).trans h.c4, (hb.cell (p := ⟨c, 5, none⟩) q).trans h.c5, (hb.frozen (p := ⟨c, 4, none⟩) q).trans h.f4, (hb.frozen (p := ⟨c, 5, none⟩) q).trans h.f5,
    ⟨S, F, s1.later hb s1.lt, s2⟩, h.calls.later hb h.calls.lt, h.few, h.lts⟩
theorem sm_run_ok {w : World} {t e : TypeId} (ht : Tryd.prog.underlying t = some (.map 9 e)) (hz0 : (zeroValue e).run Tryd.prog w = .ok (.int .i64 0) w) {b : Nat} {S : List ByteArray} {F : ByteArray → Int} (hown : SMap w b S F) {y : ByteArray} (hs : y.size ≤ maxLen) {z : Int} (hz : F y = z) {r : Bool} (hr : decide (y ∈ S) = r) :
    (Instr.lookup t (.map (some b)) (.string y) true).run Tryd.prog w = .ok (.tuple #[.int .i64 z, .bool r]) w := by
  obtain ⟨D, h, _, _, hh, hF⟩ := hown
  obtain ⟨v, ps, hrun, hv⟩ := h.look_ok Tryd.strKey ht hz0 (zd := .lit (.int .i64 0)) (zp := []) rfl (WideMaps.keyOf_string_mk Tryd.underlying9 hs)
  have hv : numD v = some (D.atKey (keyS y) (.lit (.int .i64 0)), ps) := hv
  rw [hF y, hz] at hv
  have e1 := numD_inv hv
  subst e1
  have e : Maps.has D (.string y.data.toList) = r := by
    rw [← hr, Bool.eq_iff_iff, hh]
    simp only [decide_eq_true_eq]
    constructor
    · rintro ⟨x, hx, e⟩
      rw [keyS_inj (show keyS y = keyS x from e)]; exact hx
    · intro h; exact ⟨y, h, rfl⟩
  rw [e] at hrun
  exact hrun
theorem OwnStrs.oth {S : Nat → Prop} {w w' : World} {B : Nat} {v : Value} {l : List ByteArray} (h : OwnStrs w B v l) (hO : Oth S w w') (hS : ∀ k, v.ownBlock = some k → ¬ S k) : OwnStrs w' B v l := by
  refine ⟨h.1, ?_⟩
  rcases h.2 with h2 | ⟨g, vcap, cur, rfl, hg, hgh, r⟩
  · exact .inl h2
  · refine .inr ⟨g, vcap, cur, rfl, hg, ?_, r⟩
    rw [hO.block g (Array.getElem?_eq_some_iff.1 hgh).1 (hS g rfl)]
    exact hgh
theorem ScAt.oth {S : Nat → Prop} {w w' : World} {c bk : Nat} {ov : Value} {K : Known} (h : ScAt w c bk ov K) (hO : Oth S w w') (hc : ¬ S c) (hb : ¬ S bk) (hS : ∀ k, ov.ownBlock = some k → ¬ S k) : ScAt w' c bk ov K := by
  have q := block_lt_of_cell h.c0
  obtain ⟨Z, s1, s2⟩ := h.kinds
  exact ⟨(hO.cell (p := ⟨c, 0, none⟩) q hc).trans h.c0, (hO.cell (p := ⟨c, 1, none⟩) q hc).trans h.c1, (hO.frozen (p := ⟨c, 1, none⟩) q hc).trans h.f1, ⟨Z, s1.oth hO hb, s2⟩, h.order.oth hO hS, h.good, h.lt⟩
theorem ScAt.own {w : World} {c bk : Nat} {ov : Value} {K : Known} (h : ScAt w c bk ov K) : ∀ k, ov.ownBlock = some k → c < k ∧ k < w.heap.size := fun k e => by
  have := World.ownsRow.lt h.order k e
  exact ⟨by omega, this.2⟩
theorem nodup_subI : ∀ (a b : List Int), a.Nodup → (∀ x ∈ a, x ∈ b) → a.length ≤ b.length
  | [], b, _, _ => by simp
  | x :: a, b, hn, h => by
    obtain ⟨h1, h2⟩ := List.nodup_cons.1 hn
    have hx := h x (by simp)
    have := nodup_subI a (b.erase x) h2 (fun y hy => (List.mem_erase_of_ne (fun e => h1 (by rw [← e]; exact hy))).2 (h y (by simp [hy])))
    rw [List.length_erase_of_mem hx] at this
    have : 0 < b.length := List.length_pos_of_mem hx
    simp only [List.length_cons]; omega
theorem few_le {n : Nat} {S : List Int} (h1 : S.Nodup) (h2 : ∀ x ∈ S, 0 ≤ x ∧ x < (n : Int)) : S.length ≤ n := by
  have := nodup_subI S ((List.range n).map fun (i : Nat) => (i : Int)) h1 fun x hx => by
    obtain ⟨a, b⟩ := h2 x hx
    rw [List.mem_map]
    exact ⟨x.toNat, by simp; omega, by omega⟩
  simpa using this
theorem CMap.nodup {w : World} {b : Nat} {S : List Int} (h : CMap w b S) : S.Nodup := by obtain ⟨D, F, _, h, _⟩ := h; exact h
/-- One more call is noted. -/
theorem WAt.call {w w' : World} {c bk bf bc : Nat} {ov : Value} {K : Known} {G : List ByteArray} {C : List Int} {n loops : Int} (h : WAt w c bk bf bc ov K G C n loops) {i : Nat} (hm : CMap w' bc (insI C (i : Int))) (hO : Oth (· = bc) w w') (hi : i < G.length) : WAt w' c bk bf bc ov K G (insI C (i : Int)) n loops := by
  have q := block_lt_of_cell h.c2
  have l := h.lts
  have o := h.sc.own
  obtain ⟨S, F, s1, s2⟩ := h.funcs
  have k := h.few
  have hr : ∀ j ∈ insI C (i : Int), 0 ≤ j ∧ j < (G.length : Int) := fun j hj => by
    rcases (insI_mem _ _ _).1 hj with rfl | hj
    · omega
    · exact k.1 j hj
  exact ⟨h.sc.oth hO (by omega) (by omega) (fun k e => by have := (o k e).1; omega), (hO.cell (p := ⟨c, 2, none⟩) q (by show ¬ c = bc; omega)).trans h.c2, (hO.cell (p := ⟨c, 3, none⟩) q (by show ¬ c = bc; omega)).trans h.c3, (hO.cell (p := ⟨c, 4, none⟩) q (by show ¬ c = bc; omega)).trans h.c4, (hO.cell (p := ⟨c, 5, none⟩) q (by show ¬ c = bc; omega)).trans h.c5, (hO.frozen (p := ⟨c, 4, none⟩) q (by show ¬ c = bc; omega)).trans h.f4, (hO.frozen (p := ⟨c, 5, none⟩) q (by show ¬ c = bc; omega)).trans h.f5,
    ⟨S, F, s1.oth hO (by omega), s2⟩, hm, ⟨hr, by have := few_le hm.nodup hr; omega, k.2.2⟩, l⟩
set_option maxRecDepth 100000 in
set_option maxHeartbeats 4000000 in
theorem nexpr_any (l : List Ex) (v : Value) (w0 : World) (h : ExsIn w0 l v) : NExprOk w0 l v := by
  induction h with
  | mk l v vs h each ih =>
  intro x hx hsh W c bk bf bc ov K G C n loops hB hcb hK
  obtain ⟨a, cap, rfl, hncap, hcap⟩ := h.form
  obtain ⟨m, hm⟩ : ∃ m, m = l.length := ⟨_, rfl⟩
  have Hm := Lib.hid hm
  have Hrow : Hid (RowOf w0 (.slice a m cap) l.length 4 (fun b o i => ∀ x, l[i]? = some x → ExAt w0 b o x (vs i))) := by rw [hm]; exact h
  have Hih := Lib.hid (And.intro ih each)
  rw [← hm]
  rw [← hm] at hncap
  have hn62 : m ≤ 9223372036854775807 := by have : maxLen ≤ 9223372036854775807 := by decide
                                            omega
  have Hx := Lib.hid (And.intro hx hsh)
  have HK := Lib.hid hK
  have HB := Lib.hid hB
  obtain ⟨W1, hW1⟩ : ∃ W1, W1 = W.alloc (.cells #[.int .i64 x.kind, .int .i64 x.n, .string x.name, .slice a m cap] 53) := ⟨_, rfl⟩
  have hb1 : Below W.heap.size W W1 := by rw [hW1]; exact (Below.refl _ _).alloc (Nat.le_refl _) _
  have he1 : ExAt W1 W.heap.size 0 x (.slice a m cap) := by rw [hW1]; constructor <;> exact World.cell?_alloc_at _ _ _ _ rfl
  have H1 := Lib.hid (And.intro hb1 he1)
  have HW1 := Lib.hid hW1
  unfold exVal
  clear h ih each hm hx hsh hb1 he1 hW1 hB hK
  go_enter Tryd.func70, Tryd.ntmps70
  go_upto_region 2 with (fail)
  rw [← HW1.out]
  obtain ⟨i0, i1, i2, i3⟩ := H1.out.2
  simp only [Nat.zero_add] at i1 i2 i3
  have hk := HK.out.later1 H1.out.1
  go_upto_block 0 with (fail)
  have hsz : x.name.size ≤ 16 := ((Ex.short_eq x).1 Hx.out.2).1
  have hsz2 : x.name.size ≤ maxLen := by unfold maxLen; omega
  go_cut [1, 5, 11] (fun _ s5 _ wc => ∃ C', s5 = .int .i64 (x.nown K G) ∧ WAt wc c bk bf bc ov K G C' n loops ∧ Oth (· = bc) W1 wc ∧ (x.nown K G = 0 → ∀ i, i ∈ C' ↔ i ∈ C ∨ (x.kind = 4 ∧ idxs G [x.name] i)))
  case first =>
    obtain ⟨S, hS⟩ := hk.sc.kinds
    have c0 := hk.sc.c0
    have HS := Lib.hid hS
    clear hS
    by_cases h2 : x.kind = 2
    · have Hown : Hid (x.nown K G = needE K x.name false) := by show _ = _; unfold Ex.nown; rw [if_pos h2]
      have hq : (x.kind == 2) = true := by simp [h2]
      go_wp2_with fail
      refine (need_any c bk S K x.name false W1 c0 HS.out.1 hsz2).mono ?_
      rintro e w2 ⟨rfl, hw⟩
      rw [← hw, ← Hown.out]
      clear hw
      go_wp2_with fail
      go_meet
      case rel => exact ⟨C, rfl, hk, Oth.refl _ _, fun _ i => ⟨.inl, fun h => h.elim id fun h => by omega⟩⟩
    by_cases h3 : x.kind = 3
    · have Hown : Hid (x.nown K G = needE K x.name true) := by show _ = _; unfold Ex.nown; rw [if_neg h2, if_pos h3]
      have hq : (x.kind == 3) = true := by simp [h3]
      have hq2 : (x.kind == 2) = false := by simp [h2]
      go_wp2_with fail
      refine (need_any c bk S K x.name true W1 c0 HS.out.1 hsz2).mono ?_
      rintro e w2 ⟨rfl, hw⟩
      rw [← hw, ← Hown.out]
      clear hw
      go_wp2_with fail
      go_meet
      case rel => exact ⟨C, rfl, hk, Oth.refl _ _, fun _ i => ⟨.inl, fun h => h.elim id fun h => by omega⟩⟩
    by_cases h4 : x.kind = 4
    · have hq : (x.kind == 4) = true := by simp [h4]
      have hq2 : (x.kind == 2) = false := by simp [h2]
      have hq3 : (x.kind == 3) = false := by simp [h3]
      have d1 := hk.c2
      have d2 := hk.c3
      go_upto_region 8 with (fail)
      obtain ⟨SF, F, hf1, hf2, hf3⟩ := hk.funcs
      have HKd := Lib.hid (hk.later1 (Below.refl _ _).drew)
      have HFd : Hid (SMap W1.drew bf SF F) := hf1.later (Below.refl _ _).drew hf1.lt
      have HF := Lib.hid (And.intro hf2 hf3)
      by_cases hG : x.name ∈ G
      · obtain ⟨k, hkG⟩ : ∃ k : Nat, G[k]? = some x.name := List.mem_iff_getElem?.1 hG
        have hkl : k < G.length := (List.getElem?_eq_some_iff.1 hkG).1
        have hfew := hk.few
        have hGl : k < 32 := by omega
        have Hown : Hid (x.nown K G = 0) := by show _ = _; unfold Ex.nown; rw [if_neg h2, if_neg h3, if_neg (fun h => h.2 hG)]
        have HG := Lib.hid (And.intro hkG (And.intro hkl (And.intro hfew h4)))
        have hrun := sm_run_ok (t := 60) Tryd.underlying60 (by kernel_rfl) HFd.out hsz2 (hf3 k x.name hkG) (decide_eq_true ((hf2 _).2 hG))
        have hCl : C.length ≤ 1000000 := by omega
        clear hf1 hf2 hf3 hG hkG hkl hfew h4
        go_region
        go_goals
        all_goals
          clear hrun
          go_wp2_with (first
            | (at_lookup; refine cm_look rfl _ _ rfl bc C rfl HKd.out.calls (k : Int) rfl (by omega) ?_; intro z)
            | (at_mapUpdate; refine cm_put rfl _ _ _ rfl bc C rfl HKd.out.calls (k : Int) rfl _ rfl (by omega) hCl ?_; intro w5 hm5 hg5; have H5 := Lib.hid (And.intro hm5 hg5); clear hm5 hg5))
          go_meet
          case rel =>
            have hO5 : Oth (· = bc) W1 w5 := (Oth.of_below (Below.refl _ _).drew).trans (.of_grown H5.out.2)
            refine ⟨insI C (k : Int), by rw [Hown.out], hk.call H5.out.1 hO5 HG.out.2.1, hO5, fun _ i => ?_⟩
            rw [insI_mem, Or.comm]
            refine or_congr Iff.rfl ⟨fun e => ⟨HG.out.2.2.2, k, x.name, e, HG.out.1, by simp⟩, ?_⟩
            rintro ⟨-, k2, s2, rfl, e2, e3⟩
            simp only [List.mem_cons, List.not_mem_nil, or_false] at e3
            have q1 := HF.out.2 k2 s2 e2
            have q2 := HF.out.2 k x.name HG.out.1
            rw [e3] at q1
            omega
      · have Hown : Hid (x.nown K G = 8) := by show _ = _; unfold Ex.nown; rw [if_neg h2, if_neg h3, if_pos ⟨h4, hG⟩]
        have hnS : decide (x.name ∈ SF) = false := decide_eq_false fun h => hG ((hf2 _).1 h)
        obtain ⟨z, hz⟩ : ∃ z, z = F x.name := ⟨_, rfl⟩
        have hrun := sm_run_ok (t := 60) Tryd.underlying60 (by kernel_rfl) HFd.out hsz2 hz.symm hnS
        clear hf1 hf2 hf3 hG h4 hz hnS
        go_region
        go_goals
        all_goals
          clear hrun
          go_wp2_with fail
          go_ret
        all_goals
          have Herr : x.nerr K G = 8 := by rw [Ex.nerr_eq, Hown.out]; rfl
          exact ⟨by rw [Herr]; rfl, C, HK.out.later1 (H1.out.1.trans (Below.refl _ _).drew), .of_below (H1.out.1.trans (Below.refl _ _).drew), fun h => by rw [Herr] at h; omega⟩
    · have Hown : Hid (x.nown K G = 0) := by show _ = _; unfold Ex.nown; rw [if_neg h2, if_neg h3, if_neg (fun h => h4 h.1)]
      have hq : (x.kind == 4) = false := by simp [h4]
      have hq2 : (x.kind == 2) = false := by simp [h2]
      have hq3 : (x.kind == 3) = false := by simp [h3]
      have H4 := Lib.hid h4
      clear h4
      go_wp2_with fail
      go_meet
      case rel => exact ⟨C, by rw [Hown.out], hk, Oth.refl _ _, fun _ i => ⟨.inl, fun h => h.elim id fun h => absurd h.1 H4.out⟩⟩
  case rest =>
    obtain ⟨C1, rfl, hK1, hO1, hC1⟩ := hcut
    obtain ⟨V, hV⟩ : ∃ V : World, V = wc := ⟨_, rfl⟩
    subst hV
    have q1 : W.heap.size < W1.heap.size := block_lt_of_cell i0
    have hlb := hk.lts
    have hbc : bc < c := hlb.2.2
    have hbf : w0.heap.size ≤ bc := by omega
    have qc : c < W.heap.size := block_lt_of_cell HK.out.c2
    have heV := H1.out.2.oth hO1 q1 (by omega)
    have hBV : Below w0.heap.size w0 V := (HB.out.trans (H1.out.1.mono HB.out.size)).trans (hO1.below (Nat.le_trans HB.out.size (by omega)) fun _ e => by omega)
    have HBV := Lib.hid hBV
    have HK1 := Lib.hid (And.intro hK1 (And.intro ((Oth.of_below (S := (· = bc)) H1.out.1).trans hO1) hC1))
    have q2 := hO1.size
    have Hlb := Lib.hid hlb
    clear hk i0 i1 i2 i3 hK1 hO1 hC1 hBV hlb
    obtain ⟨e0, he0⟩ : ∃ e, e = x.nown K G := ⟨_, rfl⟩
    have He0 := Lib.hid he0
    rw [← he0]
    obtain ⟨i0, i1, i2, i3⟩ := heV
    simp only [Nat.zero_add] at i3
    clear he0 i0 i1 i2
    go_wp2_with fail
    go_loopg [5, 48] m (fun g ev iv wx => ∃ (i : Nat) (e : Int) (Ci : List Int), g = m - i ∧ ev = .int .i64 e ∧ iv = .int .i64 (i : Int) ∧ i ≤ m ∧ WAt wx c bk bf bc ov K G Ci n loops ∧ Oth (· = bc) V wx ∧
      ((e = 0 ∧ x.nown K G = 0 ∧ (∀ j y, j < i → l[j]? = some y → y.nerr K G = 0) ∧ ∀ z, z ∈ Ci ↔ z ∈ C1 ∨ idxs G (Ex.ncallss (l.take i)) z) ∨ (e ≠ 0 ∧ x.nerr K G = e)))
    case atStart =>
      refine ⟨0, e0, C1, rfl, rfl, rfl, Nat.zero_le _, HK1.out.1, Oth.refl _ _, ?_⟩
      by_cases h : e0 = 0
      · exact .inl ⟨h, by rw [← He0.out]; exact h, fun j y h => by omega, fun z => by simp [Ex.ncallss, idxs]⟩
      · exact .inr ⟨h, by rw [Ex.nerr_eq, ← He0.out, if_pos h]⟩
    case round =>
      obtain ⟨i, e, Ci, hg, rfl, rfl, hi, hK, hO, hp⟩ := hrel
      have Hg := Lib.hid hg
      have HKi := Lib.hid (And.intro hK (And.intro hO hp))
      have hBr : Below w0.heap.size w0 wr := HBV.out.trans (hO.below HBV.out.size fun _ e => by omega)
      have HBr := Lib.hid hBr
      clear hg hK hO hp
      by_cases hin : i < m
      · obtain ⟨y, hy⟩ : ∃ y, l[i]? = some y := ⟨_, List.getElem?_eq_getElem (by rw [← Hm.out]; exact hin)⟩
        obtain ⟨b, off, rfl, hb, hP⟩ := Hrow.out.at (i := i) (by rw [← Hm.out]; exact hin)
        have hey := (hP y hy).later hBr hb
        have ihy := Hih.out.1 i y hy y rfl (Ex.shorts_at ((Ex.short_eq x).1 Hx.out.2).2 (by rw [Hx.out.1]; exact hy))
        obtain ⟨a', cap', hvs, -⟩ := (Hih.out.2 i y hy).form
        obtain ⟨m', hm'⟩ : ∃ m', m' = y.args.length := ⟨_, rfl⟩
        rw [hvs, ← hm'] at hey ihy
        obtain ⟨i0, i1, i2, i4⟩ := hey
        obtain ⟨W4, hW4⟩ : ∃ W4, W4 = wr.alloc (.cells #[.int .i64 y.kind, .int .i64 y.n, .string y.name, .slice a' m' cap'] 53) := ⟨_, rfl⟩
        have hb4 : Below wr.heap.size wr W4 := by rw [hW4]; exact (Below.refl _ _).alloc (Nat.le_refl _) _
        have he4 : ExAt W4 wr.heap.size 0 y (.slice a' m' cap') := by rw [hW4]; constructor <;> exact World.cell?_alloc_at _ _ _ _ rfl
        have H4 := Lib.hid (And.intro (HKi.out.1.later1 hb4) (And.intro (Oth.of_below (S := (· = bc)) hb4) (And.intro (hBr.trans (hb4.mono hBr.size)) (And.intro ihy hy))))
        have HW4 := Lib.hid hW4
        have He4 := Lib.hid he4
        clear hBr hP hy ihy hvs hm' hb4 he4 hW4 i3
        go_upto_region 15 with (fail)
        rw [← HW4.out]
        obtain ⟨j0, j1, j2, j3⟩ := He4.out
        simp only [Nat.zero_add] at j0 j1 j2 j3
        clear i0 i1 i2 i4
        by_cases hez : e = 0
        · subst hez
          obtain ⟨p1, p2, p3⟩ : x.nown K G = 0 ∧ (∀ j y, j < i → l[j]? = some y → y.nerr K G = 0) ∧ ∀ z, z ∈ Ci ↔ z ∈ C1 ∨ idxs G (Ex.ncallss (l.take i)) z := by
            rcases HKi.out.2.2 with h | h
            · exact h.2
            · exact absurd rfl h.1
          have Hp := Lib.hid (And.intro p1 (And.intro p2 p3))
          clear p1 p2 p3
          go_wp2_with fail
          refine (H4.out.2.2.2.1 W4 c bk bf bc ov K G Ci n loops H4.out.2.2.1 hcb H4.out.1).mono ?_
          rintro e w5 ⟨rfl, C5, hK5, hO5, hC5⟩
          have H5 := Lib.hid (And.intro hK5 (And.intro (H4.out.2.1.trans hO5) hC5))
          clear hK5 hO5 hC5 j0 j1 j2 j3
          obtain ⟨e5, he5⟩ : ∃ e5, e5 = y.nerr K G := ⟨_, rfl⟩
          rw [← he5]
          have He5 := Lib.hid he5
          clear he5
          go_wp2_with fail
          go_roundg (m - (i + 1))
          case measure => have := Hg.out; omega
          case rel =>
            refine ⟨i + 1, e5, C5, rfl, rfl, by go_num, hin, H5.out.1, HKi.out.2.1.trans H5.out.2.1, ?_⟩
            have hyi := H4.out.2.2.2.2
            by_cases hz : e5 = 0
            · refine .inl ⟨hz, Hp.out.1, ?_, ?_⟩
              · intro j z hj hz2
                by_cases e : j = i
                · subst e
                  rw [hyi] at hz2
                  cases hz2; rw [← He5.out]; exact hz
                · exact Hp.out.2.1 j z (by omega) hz2
              · intro z
                rw [H5.out.2.2 (by rw [← He5.out]; exact hz) z, Hp.out.2.2 z, Ex.ncallss_take hyi, idxs_append, or_assoc]
            · refine .inr ⟨hz, ?_⟩
              rw [Ex.nerr_eq, if_neg (by rw [Hp.out.1]; decide), Hx.out.1, Ex.nerrs_stop hyi Hp.out.2.1 (by rw [← He5.out]; exact hz), He5.out]
        · have Hres : Hid (x.nerr K G = e) := by
            rcases HKi.out.2.2 with h | h
            · exact absurd h.1 hez
            · exact h.2
          have hq : (e != 0) = true := by simp [hez]
          have Hez := Lib.hid hez
          clear j0 j1 j2 j3 hez
          go_wp2_with fail
          go_ret
          exact ⟨by rw [Hres.out]; rfl, Ci, H4.out.1, HK1.out.2.1.trans (HKi.out.2.1.trans H4.out.2.1), fun h => absurd (by rw [← Hres.out]; exact h) Hez.out⟩
      · obtain rfl : m = i := by omega
        have ht : l.take m = l := List.take_of_length_le (by rw [← Hm.out]; exact Nat.le_refl _)
        have Hres : Hid (x.nerr K G = e ∧ (x.nerr K G = 0 → ∀ i, i ∈ Ci ↔ i ∈ C ∨ idxs G x.ncalls i)) := by
          rcases HKi.out.2.2 with h | h
          · have hr : x.nerr K G = 0 := by rw [Ex.nerr_eq, if_neg (by rw [h.2.1]; decide), Hx.out.1]; exact Ex.nerrs_none fun j y hy => h.2.2.1 j y (by rw [Hm.out]; exact (List.getElem?_eq_some_iff.1 hy).1) hy
            refine ⟨by rw [hr, h.1], fun _ i => ?_⟩
            rw [h.2.2.2 i, HK1.out.2.2 h.2.1 i, Ex.ncalls_eq, idxs_append, Hx.out.1, ht, or_assoc]
            refine or_congr Iff.rfl (or_congr ?_ Iff.rfl)
            by_cases h4 : x.kind = 4
            · rw [if_pos h4]; simp [h4]
            · rw [if_neg h4]; simp [h4, idxs]
          · exact ⟨h.2, fun h0 => absurd (by rw [← h.2]; exact h0) h.1⟩
        clear hBr hin i3
        go_wp2_with fail
        go_ret
        exact ⟨by rw [Hres.out.1]; rfl, Ci, HKi.out.1, HK1.out.2.1.trans HKi.out.2.1, Hres.out.2⟩
end Go.Proofs.YtgobcldecokppaaDoor

/- names: the walker at a statement's own names and expressions. -/
namespace Go.Proofs.YtgobcldecokppaaDoor
open Go.RowKit Go.Maps

/-- The names that a statement's own expressions call. -/
def St.nownc (x : St) : List ByteArray := (if x.kind = 8 ∨ x.kind = 2 then [] else x.a.ncalls) ++ (if x.kind = 4 ∨ x.kind = 7 then x.b.ncalls else [])
theorem St.ncalls_eq (x : St) : x.ncalls = x.nownc ++ (St.ncallss x.body ++ (Cs.ncallss x.cases ++ St.ncallss x.els)) := by
  cases x; unfold St.nownc; simp only [St.ncalls, St.kind, St.a, St.b, St.body, St.cases, St.els, List.append_assoc]; rfl
set_option maxRecDepth 100000 in
set_option maxHeartbeats 4000000 in
theorem nfirst_any (x : St) (aa ab ad ae ac : Option Addr) (na nb nd ne nc ca cb cd ce cc : Nat) (w0 : World)
    (fa : NExprOk w0 x.a.args (.slice aa na ca)) (fb : NExprOk w0 x.b.args (.slice ab nb cb)) (hf : x.fine)
    (W : World) (c bk bf bc : Nat) (ov : Value) (K : Known) (G : List ByteArray) (C : List Int) (n loops : Int) (hB : Below w0.heap.size w0 W) (hcb : w0.heap.size ≤ bf) (hK : WAt W c bk bf bc ov K G C n loops) :
    Calls Tryd.prog 57 #[ptrV c, stVal x (.slice aa na ca) (.slice ab nb cb) (.slice ad nd cd) (.slice ae ne ce) (.slice ac nc cc)] W (fun e W' => e = .returned (.int .i64 (x.nfirst K G loops)) ∧
      ∃ C', WAt W' c bk bf bc ov K G C' n loops ∧ Oth (· = bc) W W' ∧ (x.nfirst K G loops = 0 → ∀ i, i ∈ C' ↔ i ∈ C ∨ idxs G x.nownc i)) := by
  have hff := (St.fine_eq x).1 hf
  have hsz : x.name.size ≤ 16 := St.size_of_own hff.1
  have hsz2 : x.name.size ≤ maxLen := by unfold maxLen; omega
  have Hf := Lib.hid hff
  have Hab := Lib.hid (And.intro fa fb)
  have HB := Lib.hid hB
  have HK := Lib.hid hK
  obtain ⟨W1, hW1⟩ : ∃ W1, W1 = W.alloc (.cells #[.int .i64 x.kind, .string x.name, .int .i64 x.n, .int .i64 x.a.kind, .int .i64 x.a.n, .string x.a.name, .slice aa na ca, .int .i64 x.b.kind, .int .i64 x.b.n, .string x.b.name, .slice ab nb cb, .slice ad nd cd, .slice ae ne ce, .slice ac nc cc] 56) := ⟨_, rfl⟩
  have hb1 : Below W.heap.size W W1 := by rw [hW1]; exact (Below.refl _ _).alloc (Nat.le_refl _) _
  have hv1 : StAt W1 W.heap.size 0 x (.slice aa na ca) (.slice ab nb cb) (.slice ad nd cd) (.slice ae ne ce) (.slice ac nc cc) := by rw [hW1]; exact StAt.box _ _ _ _ _ _ _ _
  have hk := hK.later1 hb1
  have hlb := hK.lts
  have hbc : bc < c := hlb.2.2
  have hbf : w0.heap.size ≤ bc := by omega
  have q1 : W.heap.size < W1.heap.size := block_lt_of_cell hv1.c0
  have H1 := Lib.hid (And.intro hb1 (And.intro hv1 hk))
  have HW1 := Lib.hid hW1
  have qc : c < W.heap.size := block_lt_of_cell hK.c2
  unfold stVal
  clear fa fb hf hff hB hK hW1 hb1 hv1 hk hlb
  go_enter Tryd.func57, Tryd.ntmps57
  go_upto_region 2 with (fail)
  rw [← HW1.out]
  obtain ⟨i0, i1, i2, i3, i4, i5, i6, i7, i8, i9, i10, i11, i12, i13⟩ := H1.out.2.1
  simp only [Nat.zero_add] at i1 i2 i3 i4 i5 i6 i7 i8 i9 i10 i11 i12 i13
  clear i2 i11 i12 i13
  go_upto_block 0 with (fail)
  go_cut [1, 5, 7] (fun _ s5 _ wc => s5 = .int .i64 (x.nlead K) ∧ x.kind ≠ 8 ∧ x.kind ≠ 2 ∧ Below W1.heap.size W1 wc)
  case first =>
    have hk := H1.out.2.2
    obtain ⟨S, hS⟩ := hk.sc.kinds
    have c0 := hk.sc.c0
    have c5 := hk.c5
    have HS := Lib.hid hS
    have Hk := Lib.hid hk
    clear hS hk i3 i4 i5 i6 i7 i8 i9 i10
    by_cases h8 : x.kind = 8
    · have hq : (x.kind == 8) = true := by simp [h8]
      by_cases hl : loops = 0
      · have hql : (loops == 0) = true := by simp [hl]
        have Hres : Hid (x.nfirst K G loops = 32) := by show _ = _; unfold St.nfirst; rw [if_pos h8, if_pos hl]
        clear h8 hl
        go_wp2_with fail
        go_ret
        exact ⟨by rw [Hres.out]; rfl, C, Hk.out, .of_below H1.out.1, fun h => by rw [Hres.out] at h; omega⟩
      · have hql : (loops == 0) = false := by simp [hl]
        have Hres : Hid (x.nfirst K G loops = 0 ∧ x.nownc = []) := by
          constructor
          · unfold St.nfirst; rw [if_pos h8, if_neg hl]
          · unfold St.nownc; rw [if_pos (.inl h8), if_neg (by omega)]; rfl
        clear h8 hl
        go_wp2_with fail
        go_ret
        exact ⟨by rw [Hres.out.1]; rfl, C, Hk.out, .of_below H1.out.1, fun h i => by rw [Hres.out.2]; simp [idxs]⟩
    by_cases h2 : x.kind = 2
    · have hq : (x.kind == 8) = false := by simp [h8]
      have hq2 : (x.kind == 2) = true := by simp [h2]
      have Hres : Hid (x.nfirst K G loops = 0 ∧ x.nownc = []) := by
        constructor
        · unfold St.nfirst; rw [if_neg h8, if_pos h2]
        · unfold St.nownc; rw [if_pos (.inr h2), if_neg (by omega)]; rfl
      clear h8 h2
      go_wp2_with fail
      go_ret
      exact ⟨by rw [Hres.out.1]; rfl, C, Hk.out, .of_below H1.out.1, fun h i => by rw [Hres.out.2]; simp [idxs]⟩
    have Hne := Lib.hid (And.intro h8 h2)
    have hq8 : (x.kind == 8) = false := by simp [h8]
    have hq2 : (x.kind == 2) = false := by simp [h2]
    clear h8 h2
    by_cases h3 : x.kind = 3
    · have hq3 : (x.kind == 3) = true := by simp [h3]
      obtain ⟨z, hz⟩ : ∃ z, z = kindOf K x.name := ⟨_, rfl⟩
      obtain ⟨e, he⟩ : ∃ e, e = needE K x.name false := ⟨_, rfl⟩
      have Hlead : Hid (x.nlead K = if e ≠ 0 then e else if z = 4 then 31 else 0) := by show _ = _; unfold St.nlead; rw [if_pos h3, ← he, ← hz]
      have He := Lib.hid he
      have Hz := Lib.hid hz
      clear h3 he hz c5
      go_wp2_with fail
      refine (need_any c bk S K x.name false W1 c0 HS.out.1 hsz2).mono ?_
      rintro e w2 ⟨rfl, hw⟩
      rw [← hw, ← He.out]
      clear hw
      by_cases he0 : e = 0
      · subst he0
        have Hof : Hid (∀ q, Calls Tryd.prog 69 #[ptrV c, .string x.name] (W1.drewN q) (fun e w' => e = .returned (.int .i64 z) ∧ w' = W1.drewN q)) := fun q => Calls.mono (of_any c bk S (kindOf K) x.name (W1.drewN q) c0 (HS.out.1.later (below_draws _ _) HS.out.1.lt) hsz2) fun _ _ h => ⟨h.1.trans (by rw [Hz.out]), h.2.symm⟩
        by_cases hz4 : z = 4
        all_goals
          have hz5 : (z == 4) = decide (z = 4) := by simp [hz4]
          have Hlead2 : Hid (x.nlead K = if z = 4 then 31 else 0) := by show _ = _; rw [Hlead.out]; rfl
        · rw [decide_eq_true hz4] at hz5
          rw [if_pos hz4] at Hlead2
          clear hz4
          go_wp2_with (go_quiet ((go_at_call 69; exact Calls.quiet_of_same (v := .int .i64 z) (Hof.out _))))
          go_wp2_with fail
          go_meet
          case rel => exact ⟨by rw [Hlead2.out], Hne.out.1, Hne.out.2, below_draws _ _⟩
        · rw [decide_eq_false hz4] at hz5
          rw [if_neg hz4] at Hlead2
          clear hz4
          go_wp2_with (go_quiet ((go_at_call 69; exact Calls.quiet_of_same (v := .int .i64 z) (Hof.out _))))
          go_wp2_with fail
          go_meet
          case rel => exact ⟨by rw [Hlead2.out], Hne.out.1, Hne.out.2, below_draws _ _⟩
      · have hqe : (e == 0) = false := by simp [he0]
        have Hlead2 : Hid (x.nlead K = e) := by show _ = _; rw [Hlead.out, if_pos he0]
        clear he0
        go_wp2_with (go_quiet (fail))
        go_meet
        case rel => exact ⟨by rw [Hlead2.out], Hne.out.1, Hne.out.2, below_draws _ _⟩
    by_cases h4 : x.kind = 4
    · have hq3 : (x.kind == 3) = false := by simp [h3]
      have hq4 : (x.kind == 4) = true := by simp [h4]
      obtain ⟨e, he⟩ : ∃ e, e = needE K x.name true := ⟨_, rfl⟩
      have Hlead : Hid (x.nlead K = e) := by show _ = _; unfold St.nlead; rw [if_neg h3, if_pos h4, ← he]
      have He := Lib.hid he
      clear h3 h4 he c5
      go_wp2_with fail
      refine (need_any c bk S K x.name true W1 c0 HS.out.1 hsz2).mono ?_
      rintro e w2 ⟨rfl, hw⟩
      rw [← hw, ← He.out]
      clear hw
      go_wp2_with fail
      go_meet
      case rel => exact ⟨by rw [Hlead.out], Hne.out.1, Hne.out.2, Below.refl _ _⟩
    · have hq3 : (x.kind == 3) = false := by simp [h3]
      have hq4 : (x.kind == 4) = false := by simp [h4]
      have Hlead : Hid (x.nlead K = 0) := by show _ = _; unfold St.nlead; rw [if_neg h3, if_neg h4]
      clear h3 h4 c5
      go_wp2_with fail
      go_meet
      case rel => exact ⟨by rw [Hlead.out], Hne.out.1, Hne.out.2, Below.refl _ _⟩
  case rest =>
    obtain ⟨rfl, hn8, hn2, hbw⟩ := hcut
    obtain ⟨V, hV⟩ : ∃ V : World, V = wc := ⟨_, rfl⟩
    subst hV
    have hvV := H1.out.2.1.later hbw q1
    have HKV := Lib.hid (H1.out.2.2.later1 hbw)
    have HOV : Hid (Oth (· = bc) W V) := .of_below (H1.out.1.trans (hbw.mono (by omega)))
    have HBV : Hid (Below w0.heap.size w0 V) := HB.out.trans (HOV.out.below HB.out.size fun _ e => by omega)
    have hlen := hbw.size
    obtain ⟨e, he⟩ : ∃ e, e = x.nlead K := ⟨_, rfl⟩
    have He := Lib.hid he
    have Hfirst : Hid (x.nfirst K G loops = if e ≠ 0 then e else if x.a.nerr K G ≠ 0 then x.a.nerr K G else if x.kind = 4 ∨ x.kind = 7 then x.b.nerr K G else 0) := by
      show _ = _
      unfold St.nfirst
      rw [if_neg hn8, if_neg hn2, ← he]
    have Hownc : Hid (x.nownc = x.a.ncalls ++ (if x.kind = 4 ∨ x.kind = 7 then x.b.ncalls else [])) := by
      show _ = _
      unfold St.nownc
      rw [if_neg (by omega)]
    rw [← he]
    have Hv := Lib.hid hvV
    obtain ⟨j0, j1, j2, j3, j4, j5, j6, j7, j8, j9, j10, j11, j12, j13⟩ := hvV
    simp only [Nat.zero_add] at j1 j2 j3 j4 j5 j6 j7 j8 j9 j10 j11 j12 j13
    clear i0 i1 i3 i4 i5 i6 i7 i8 i9 i10 hn8 hn2 hbw he j1 j2 j11 j12 j13
    by_cases he0 : e = 0
    · subst he0
      have Hf2 : Hid (x.nfirst K G loops = if x.a.nerr K G ≠ 0 then x.a.nerr K G else if x.kind = 4 ∨ x.kind = 7 then x.b.nerr K G else 0) := by show _ = _; rw [Hfirst.out, if_neg (by decide)]
      go_wp2_with fail
      refine (Hab.out.1 x.a rfl Hf.out.2.1 V c bk bf bc ov K G C n loops HBV.out hcb HKV.out).mono ?_
      rintro e w5 ⟨rfl, C5, hK5, hO5, hC5⟩
      have H5 := Lib.hid (And.intro hK5 (And.intro (HOV.out.trans hO5) hC5))
      obtain ⟨ea, hea⟩ : ∃ z, z = x.a.nerr K G := ⟨_, rfl⟩
      have Hea := Lib.hid hea
      rw [← hea]
      have hv5 := Hv.out.oth hO5 (by omega) (by omega)
      have HB5 : Hid (Below w0.heap.size w0 w5) := HBV.out.trans (hO5.below HBV.out.size fun _ e => by omega)
      obtain ⟨k0, k1, k2, k3, k4, k5, k6, k7, k8, k9, k10, k11, k12, k13⟩ := hv5
      simp only [Nat.zero_add] at k1 k2 k3 k4 k5 k6 k7 k8 k9 k10 k11 k12 k13
      clear j0 j3 j4 j5 j6 j7 j8 j9 j10 hea hK5 hO5 hC5 k1 k2 k3 k4 k5 k6 k11 k12 k13
      by_cases hea0 : ea = 0
      · subst hea0
        have Hf3 : Hid (x.nfirst K G loops = if x.kind = 4 ∨ x.kind = 7 then x.b.nerr K G else 0) := by show _ = _; rw [Hf2.out, ← Hea.out]; rfl
        by_cases h4 : x.kind = 4 ∨ x.kind = 7
        · have hq : (x.kind == 4) = decide (x.kind = 4) := by by_cases h : x.kind = 4 <;> simp [h]
          have hq7 : (x.kind == 7) = decide (x.kind = 7) := by by_cases h : x.kind = 7 <;> simp [h]
          have Hf4 : Hid (x.nfirst K G loops = x.b.nerr K G) := by show _ = _; rw [Hf3.out, if_pos h4]
          have Hc4 : Hid (x.nownc = x.a.ncalls ++ x.b.ncalls) := by show _ = _; rw [Hownc.out, if_pos h4]
          by_cases h44 : x.kind = 4
          · rw [decide_eq_true h44] at hq
            clear h4 h44 hq7
            go_wp2_with fail
            refine (Hab.out.2 x.b rfl Hf.out.2.2.1 w5 c bk bf bc ov K G C5 n loops HB5.out hcb H5.out.1).mono ?_
            rintro e w6 ⟨rfl, C6, hK6, hO6, hC6⟩
            have H6 := Lib.hid (And.intro hK6 (And.intro (H5.out.2.1.trans hO6) hC6))
            clear hK6 hO6 hC6
            go_wp2_with fail
            go_ret
            exact ⟨by rw [Hf4.out]; rfl, C6, H6.out.1, H6.out.2.1, fun h i => by rw [H6.out.2.2 (by rw [← Hf4.out]; exact h), H5.out.2.2 Hea.out.symm, Hc4.out, idxs_append, or_assoc]⟩
          · rw [decide_eq_false h44] at hq
            have h77 : x.kind = 7 := h4.resolve_left h44
            rw [decide_eq_true h77] at hq7
            clear h4 h44 h77
            go_wp2_with fail
            refine (Hab.out.2 x.b rfl Hf.out.2.2.1 w5 c bk bf bc ov K G C5 n loops HB5.out hcb H5.out.1).mono ?_
            rintro e w6 ⟨rfl, C6, hK6, hO6, hC6⟩
            have H6 := Lib.hid (And.intro hK6 (And.intro (H5.out.2.1.trans hO6) hC6))
            clear hK6 hO6 hC6
            go_wp2_with fail
            go_ret
            exact ⟨by rw [Hf4.out]; rfl, C6, H6.out.1, H6.out.2.1, fun h i => by rw [H6.out.2.2 (by rw [← Hf4.out]; exact h), H5.out.2.2 Hea.out.symm, Hc4.out, idxs_append, or_assoc]⟩
        · have hq : (x.kind == 4) = false := by simp; omega
          have hq7 : (x.kind == 7) = false := by simp; omega
          have Hf4 : Hid (x.nfirst K G loops = 0) := by show _ = _; rw [Hf3.out, if_neg h4]
          have Hc4 : Hid (x.nownc = x.a.ncalls) := by show _ = _; rw [Hownc.out, if_neg h4, List.append_nil]
          clear h4
          go_wp2_with fail
          go_ret
          exact ⟨by rw [Hf4.out]; rfl, C5, H5.out.1, H5.out.2.1, fun h i => by rw [H5.out.2.2 Hea.out.symm, Hc4.out]⟩
      · have hqe : (ea == 0) = false := by simp [hea0]
        have Hres : Hid (x.nfirst K G loops = ea ∧ ea ≠ 0) := by constructor; rw [Hf2.out, ← Hea.out, if_pos hea0]; exact hea0
        clear hea0
        go_wp2_with fail
        go_ret
        exact ⟨by rw [Hres.out.1]; rfl, C5, H5.out.1, H5.out.2.1, fun h => absurd (by rw [← Hres.out.1]; exact h) Hres.out.2⟩
    · have hqe : (e == 0) = false := by simp [he0]
      have Hres : Hid (x.nfirst K G loops = e ∧ e ≠ 0) := by constructor; rw [Hfirst.out, if_pos he0]; exact he0
      clear he0
      go_wp2_with fail
      go_ret
      exact ⟨by rw [Hres.out.1]; rfl, C, HKV.out, HOV.out, fun h => absurd (by rw [← Hres.out.1]; exact h) Hres.out.2⟩
end Go.Proofs.YtgobcldecokppaaDoor

namespace Go.Proofs.YtgobcldecokppaaDoor
open Go.RowKit Go.Maps

mutual
theorem St.nchk_le (K : Known) (G : List ByteArray) (loops : Int) (x : St) : (x.nchk K G loops).1 ≤ x.total := by
  cases x with
  | mk k s n a b body els cases =>
    simp only [St.nchk, St.total]
    have h0 := St.nchks_le (K ++ [(s, 4)]) G (loops + 1) body
    have h1 := St.nchks_le (St.nadd K (.mk k s n a b body els cases)) G loops body
    have h2 := Cs.nchks_le (St.nadd K (.mk k s n a b body els cases)) G loops cases
    have h3 := St.nchks_le (St.nadd K (.mk k s n a b body els cases)) G loops els
    refine Nat.le_trans (after_fst_le _ _) ?_
    simp only
    split
    · split
      · simp only; omega
      · omega
    · split
      · simp only; omega
      · have a2 := after_fst_le (St.nchks (St.nadd K (.mk k s n a b body els cases)) G loops body) (after (Cs.nchks (St.nadd K (.mk k s n a b body els cases)) G loops cases) (St.nchks (St.nadd K (.mk k s n a b body els cases)) G loops els))
        have a3 := after_fst_le (Cs.nchks (St.nadd K (.mk k s n a b body els cases)) G loops cases) (St.nchks (St.nadd K (.mk k s n a b body els cases)) G loops els)
        omega
theorem St.nchks_le (K : Known) (G : List ByteArray) (loops : Int) (l : List St) : (St.nchks K G loops l).1 ≤ St.totals l := by
  cases l with
  | nil => simp [St.nchks]
  | cons x l =>
    simp only [St.nchks, St.totals]
    have h1 := St.nchk_le K G loops x
    have h2 := St.nchks_le (x.nadd K) G loops l
    have a1 := after_fst_le (St.nchk K G loops x) (St.nchks (x.nadd K) G loops l)
    omega
theorem Cs.nchk_le (K : Known) (G : List ByteArray) (loops : Int) (x : Cs) : (x.nchk K G loops).1 ≤ x.total := by
  cases x with
  | mk n body =>
    simp only [Cs.nchk, Cs.total]
    have h1 := St.nchks_le K G loops body
    omega
theorem Cs.nchks_le (K : Known) (G : List ByteArray) (loops : Int) (l : List Cs) : (Cs.nchks K G loops l).1 ≤ Cs.totals l := by
  cases l with
  | nil => simp [Cs.nchks]
  | cons x l =>
    simp only [Cs.nchks, Cs.totals]
    have h1 := Cs.nchk_le K G loops x
    have h2 := Cs.nchks_le K G loops l
    have a1 := after_fst_le (Cs.nchk K G loops x) (Cs.nchks K G loops l)
    omega
end
theorem St.ncallss_append (l m : List St) : St.ncallss (l ++ m) = St.ncallss l ++ St.ncallss m := by
  induction l with
  | nil => simp [St.ncallss]
  | cons y l ih => simp only [List.cons_append, St.ncallss, ih, List.append_assoc]
theorem Cs.ncallss_append (l m : List Cs) : Cs.ncallss (l ++ m) = Cs.ncallss l ++ Cs.ncallss m := by
  induction l with
  | nil => simp [Cs.ncallss]
  | cons y l ih => simp only [List.cons_append, Cs.ncallss, ih, List.append_assoc]
theorem St.ncallss_take {l : List St} {i : Nat} {x : St} (h : l[i]? = some x) : St.ncallss (l.take (i + 1)) = St.ncallss (l.take i) ++ x.ncalls := by
  rw [take_next h, St.ncallss_append]; simp [St.ncallss]
theorem Cs.ncallss_take {l : List Cs} {i : Nat} {x : Cs} (h : l[i]? = some x) : Cs.ncallss (l.take (i + 1)) = Cs.ncallss (l.take i) ++ x.ncalls := by
  rw [take_next h, Cs.ncallss_append]; simp [Cs.ncallss]
theorem Cs.ncalls_eq (x : Cs) : x.ncalls = St.ncallss x.body := by cases x; simp only [Cs.ncalls, Cs.body]

/-- The blocks that a walk may write. -/
def WT (c bk bc : Nat) (ov : Value) (k : Nat) : Prop := k = bc ∨ ScT c bk ov k
structure WStep (w w' : World) (c bk bc : Nat) (ov ov' : Value) : Prop where
  oth : Oth (WT c bk bc ov) w w'
  new : ScNew w ov ov'
theorem WStep.of_below {w w' : World} {c bk bc : Nat} {ov : Value} (h : Below w.heap.size w w') : WStep w w' c bk bc ov ov := ⟨.of_below h, fun _ _ h => h⟩
theorem WStep.refl (w : World) (c bk bc : Nat) (ov : Value) : WStep w w c bk bc ov ov := .of_below (Below.refl _ _)
theorem WStep.of_calls {w w' : World} {c bk bc : Nat} {ov : Value} (h : Oth (· = bc) w w') : WStep w w' c bk bc ov ov := ⟨h.imp fun _ _ h => .inl h, fun _ _ h => h⟩
theorem WStep.of_scope {w w' : World} {c bk bc : Nat} {ov ov' : Value} (h : Oth (ScT c bk ov) w w') (hn : ScNew w ov ov') : WStep w w' c bk bc ov ov' := ⟨h.imp fun _ _ h => .inr h, hn⟩
theorem WStep.set {w : World} {c bk bc : Nat} {ov : Value} (o : Nat) (v : Value) : WStep w (w.setCell ⟨c, o, none⟩ v) c bk bc ov ov := ⟨(Oth.refl _ _).set (p := ⟨c, o, none⟩) (.inr (.inl rfl)) _, fun _ _ h => h⟩
theorem WStep.trans {w w1 w2 : World} {c bk bc : Nat} {ov ov1 ov2 : Value} (h : WStep w w1 c bk bc ov ov1) (k : WStep w1 w2 c bk bc ov1 ov2) : WStep w w2 c bk bc ov ov2 :=
  ⟨⟨k.oth.os.trans h.oth.os, k.oth.tape.trans h.oth.tape, k.oth.output.trans h.oth.output, Nat.le_trans h.oth.size k.oth.size, fun i hi hs => (k.oth.block i (Nat.lt_of_lt_of_le hi h.oth.size) (fun h2 => hs (by
      rcases h2 with h2 | h2 | h2 | h2
      · exact .inl h2
      · exact .inr (.inl h2)
      · exact .inr (.inr (.inl h2))
      · exact .inr (.inr (.inr (h.new i hi h2)))))).trans (h.oth.block i hi hs)⟩,
    fun i hi h2 => h.new i hi (k.new i (Nat.lt_of_lt_of_le hi h.oth.size) h2)⟩
theorem WAt.own {w : World} {c bk bf bc : Nat} {ov : Value} {K : Known} {G : List ByteArray} {C : List Int} {n loops : Int} (h : WAt w c bk bf bc ov K G C n loops) : ∀ k, ov.ownBlock = some k → c < k ∧ k < w.heap.size := h.sc.own
theorem WAt.wt {w : World} {c bk bf bc : Nat} {ov : Value} {K : Known} {G : List ByteArray} {C : List Int} {n loops : Int} (h : WAt w c bk bf bc ov K G C n loops) {k : Nat} (hk : WT c bk bc ov k) : bf < k ∧ k < w.heap.size := by
  have l := h.lts
  have q : c < w.heap.size := block_lt_of_cell h.c2
  rcases hk with h2 | h2 | h2 | h2
  · omega
  · omega
  · omega
  · have := h.own k h2; omega
theorem WStep.below {w w0 w' : World} {c bk bf bc : Nat} {ov ov' : Value} {K : Known} {G : List ByteArray} {C : List Int} {n loops : Int} (h : WStep w w' c bk bc ov ov') (hK : WAt w c bk bf bc ov K G C n loops) (hB : Below w0.heap.size w0 w) (hb : w0.heap.size ≤ bf) : Below w0.heap.size w0 w' :=
  hB.trans (h.oth.below hB.size fun k hk => by have := (hK.wt hk).1; omega)
/-- A block made behind the walker stays as it is. -/
theorem not_wt {c bk bc : Nat} {ov : Value} {D : Nat} (h1 : D ≠ bc) (h2 : D ≠ c) (h3 : D ≠ bk) (h4 : ∀ k, ov.ownBlock = some k → k < D) : ¬ WT c bk bc ov D := by
  rintro (e | e | e | e)
  · exact h1 e
  · exact h2 e
  · exact h3 e
  · have := h4 D e; omega
theorem WAt.scope {w w' : World} {c bk bf bc : Nat} {ov ov' : Value} {K K' : Known} {G : List ByteArray} {C : List Int} {n loops : Int} (h : WAt w c bk bf bc ov K G C n loops) (hs : ScAt w' c bk ov' K') (hO : Oth (ScT c bk ov) w w') (hk : ScKeep w w' c) : WAt w' c bk bf bc ov' K' G C n loops := by
  have l := h.lts
  have q : c < w.heap.size := block_lt_of_cell h.c2
  have o := h.own
  obtain ⟨S, F, s1, s2⟩ := h.funcs
  refine ⟨hs, (hk 2 (by decide)).1.trans h.c2, (hk 3 (by decide)).1.trans h.c3, (hk 4 (by decide)).1.trans h.c4, (hk 5 (by decide)).1.trans h.c5, (hk 4 (by decide)).2.trans h.f4, (hk 5 (by decide)).2.trans h.f5, ⟨S, F, s1.oth hO ?_, s2⟩, h.calls.oth hO ?_, h.few, l⟩
  · rintro (e | e | e)
    · omega
    · omega
    · have := o _ e; omega
  · rintro (e | e | e)
    · omega
    · omega
    · have := o _ e; omega
theorem WAt.put {w : World} {c bk bf bc : Nat} {ov : Value} {K : Known} {G : List ByteArray} {C : List Int} {n loops : Int} (h : WAt w c bk bf bc ov K G C n loops) (o : Nat) (ho : o = 4 ∨ o = 5) (z : Int) : WAt (w.setCell ⟨c, o, none⟩ (.int .i64 z)) c bk bf bc ov K G C (if o = 4 then z else n) (if o = 5 then z else loops) := by
  have l := h.lts
  have q : c < w.heap.size := block_lt_of_cell h.c2
  have ow := h.own
  have hO : Oth (· = c) w (w.setCell ⟨c, o, none⟩ (.int .i64 z)) := (Oth.refl (· = c) w).set (p := ⟨c, o, none⟩) rfl _
  have ne : ∀ j, j ≠ o → (w.setCell ⟨c, o, none⟩ (.int .i64 z)).cell? ⟨c, j, none⟩ = w.cell? ⟨c, j, none⟩ := fun j hj => World.cell?_setCell_other _ _ _ _ (by intro e; injection e with e1 e2; exact hj e2.symm)
  have fr : ∀ j, (w.setCell ⟨c, o, none⟩ (.int .i64 z)).frozen? ⟨c, j, none⟩ = w.frozen? ⟨c, j, none⟩ := fun j => World.frozen?_setCell _ _ _ _
  obtain ⟨S, F, s1, s2⟩ := h.funcs
  obtain ⟨Z, z1, z2⟩ := h.sc.kinds
  have hsc : ScAt (w.setCell ⟨c, o, none⟩ (.int .i64 z)) c bk ov K := ⟨(ne 0 (by omega)).trans h.sc.c0, (ne 1 (by omega)).trans h.sc.c1, (fr 1).trans h.sc.f1, ⟨Z, z1.oth hO (by omega), z2⟩, h.sc.order.oth hO (fun k e => by have := ow k e; omega), h.sc.good, h.sc.lt⟩
  refine ⟨hsc, (ne 2 (by omega)).trans h.c2, (ne 3 (by omega)).trans h.c3, ?_, ?_, (fr 4).trans h.f4, (fr 5).trans h.f5, ⟨S, F, s1.oth hO (by omega), s2⟩, h.calls.oth hO (by omega), h.few, l⟩
  · rcases ho with rfl | rfl
    · exact World.cell?_setCell_same' _ _ _ (by rw [h.c4]; rfl)
    · exact (ne 4 (by omega)).trans h.c4
  · rcases ho with rfl | rfl
    · exact (ne 5 (by omega)).trans h.c5
    · exact World.cell?_setCell_same' _ _ _ (by rw [h.c5]; rfl)
theorem WAt.putAt {w : World} {c bk bf bc : Nat} {ov : Value} {K : Known} {G : List ByteArray} {C : List Int} {n loops : Int} (h : WAt w c bk bf bc ov K G C n loops) (z : Int) : WAt (w.setCell ⟨c, 4, none⟩ (.int .i64 z)) c bk bf bc ov K G C z loops := h.put 4 (.inl rfl) z
theorem WAt.putLoops {w : World} {c bk bf bc : Nat} {ov : Value} {K : Known} {G : List ByteArray} {C : List Int} {n loops : Int} (h : WAt w c bk bf bc ov K G C n loops) (z : Int) : WAt (w.setCell ⟨c, 5, none⟩ (.int .i64 z)) c bk bf bc ov K G C n z := h.put 5 (.inr rfl) z
theorem WAt.len {w : World} {c bk bf bc : Nat} {ov : Value} {K : Known} {G : List ByteArray} {C : List Int} {n loops : Int} (h : WAt w c bk bf bc ov K G C n loops) : ∃ a cap, ov = .slice a K.length cap := by
  obtain ⟨_, a, cap, e, _⟩ := SliceIn.of_owns h.sc.order
  simp at e
  exact ⟨a, cap, e⟩
theorem WAt.to {w : World} {c bk bf bc : Nat} {ov : Value} {K K' : Known} {G : List ByteArray} {C : List Int} {n n' loops loops' : Int} (h : WAt w c bk bf bc ov K G C n loops) (h1 : K = K') (h2 : n = n') (h3 : loops = loops') : WAt w c bk bf bc ov K' G C n' loops' := by subst h1; subst h2; subst h3; exact h

/-- What a walk over something leaves: r statements met and what is wrong, Kz known behind it, ns called. -/
def NPost (W W' : World) (c bk bf bc : Nat) (ov : Value) (K : Known) (G : List ByteArray) (C : List Int) (n loops : Int) (r : Nat × Int) (Kz : Known) (ns : List ByteArray) (t : Nat) : Prop :=
  ∃ (ov' : Value) (D : Known) (C' : List Int), WAt W' c bk bf bc ov' (K ++ D) G C' (n + (r.1 : Int)) loops ∧ WStep W W' c bk bc ov ov' ∧ D.length ≤ t ∧ (r.2 = 0 → K ++ D = Kz ∧ ∀ i, i ∈ C' ↔ i ∈ C ∨ idxs G ns i)
def NListOk (w0 : World) (l : List St) (v : Value) : Prop := St.fines l → ∀ (W : World) (c bk bf bc : Nat) (ov : Value) (K : Known) (G : List ByteArray) (C : List Int) (n loops : Int), Below w0.heap.size w0 W → w0.heap.size ≤ bf → WAt W c bk bf bc ov K G C n loops →
  0 ≤ n → n + (St.totals l : Int) ≤ 1000000 → 0 ≤ loops → loops + (St.totals l : Int) ≤ 1000000 → K.length + St.totals l ≤ 100000 →
  Calls Tryd.prog 41 #[ptrV c, v] W (fun E W' => E = .returned (.int .i64 (St.nchks K G loops l).2) ∧ NPost W W' c bk bf bc ov K G C n loops (St.nchks K G loops l) K (St.ncallss l) (St.totals l))
theorem St.nadd_ext (K : Known) (x : St) : ∃ D, x.nadd K = K ++ D ∧ D.length ≤ 1 := by
  unfold St.nadd
  split
  · exact ⟨_, rfl, by simp⟩
  · split
    · exact ⟨_, rfl, by simp⟩
    · exact ⟨[], by simp, by simp⟩
/-- Something is wrong in a list: what is met up to there. -/
theorem St.nchks_hit {K : Known} {G : List ByteArray} {loops : Int} {l : List St} {i : Nat} {x : St} (hx : l[i]? = some x) (h0 : (St.nchks K G loops (l.take i)).2 = 0) (he : (x.nchk (kAfter K (l.take i)) G loops).2 ≠ 0) : St.nchks K G loops l = ((St.nchks K G loops (l.take i)).1 + (x.nchk (kAfter K (l.take i)) G loops).1, (x.nchk (kAfter K (l.take i)) G loops).2) := by
  have h : St.nchks K G loops (l.take (i + 1)) = ((St.nchks K G loops (l.take i)).1 + (x.nchk (kAfter K (l.take i)) G loops).1, (x.nchk (kAfter K (l.take i)) G loops).2) := by rw [St.nchks_next hx, after_ok h0]
  rw [St.nchks_stop (i + 1) (by rw [h]; exact he), h]
theorem Cs.nchks_hit {K : Known} {G : List ByteArray} {loops : Int} {l : List Cs} {i : Nat} {x : Cs} (hx : l[i]? = some x) (h0 : (Cs.nchks K G loops (l.take i)).2 = 0) (he : (x.nchk K G loops).2 ≠ 0) : Cs.nchks K G loops l = ((Cs.nchks K G loops (l.take i)).1 + (x.nchk K G loops).1, (x.nchk K G loops).2) := by
  have h : Cs.nchks K G loops (l.take (i + 1)) = ((Cs.nchks K G loops (l.take i)).1 + (x.nchk K G loops).1, (x.nchk K G loops).2) := by rw [Cs.nchks_next hx, after_ok h0]
  rw [Cs.nchks_stop (i + 1) (by rw [h]; exact he), h]
theorem kAfter_le (K : Known) (l : List St) : ∃ D, kAfter K l = K ++ D ∧ D.length ≤ l.length := by
  induction l generalizing K with
  | nil => exact ⟨[], by simp [kAfter], by simp⟩
  | cons x l ih =>
    obtain ⟨D1, e1, h1⟩ := St.nadd_ext K x
    obtain ⟨D2, e2, h2⟩ := ih (x.nadd K)
    refine ⟨D1 ++ D2, ?_, by simp; omega⟩
    show kAfter (x.nadd K) l = _
    rw [e2, e1, List.append_assoc]
theorem St.len_totals (l : List St) : l.length ≤ St.totals l := by
  induction l with
  | nil => simp
  | cons x l ih =>
    have := x.total_eq
    simp only [List.length_cons, St.totals]
    omega
end Go.Proofs.YtgobcldecokppaaDoor
