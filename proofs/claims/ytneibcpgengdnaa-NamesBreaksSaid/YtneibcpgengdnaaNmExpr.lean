/- names: the walker at an expression. -/
import Derived.Test.YtneibcpgengdnaaNmFine
import Derived.StillTailTactics
import Derived.Deep.RegionWith
namespace Go.Proofs.Ytneibcpgengdnaa
open Go.RowKit Go.Maps

/-- The numbers of the functions that some names call. -/
def idxs (G : List ByteArray) (l : List ByteArray) (i : Int) : Prop := ∃ (k : Nat) (s : ByteArray), i = (k : Int) ∧ G[k]? = some s ∧ s ∈ l
theorem idxs_append (G l m : List ByteArray) (i : Int) : idxs G (l ++ m) i ↔ idxs G l i ∨ idxs G m i := by
  unfold idxs
  constructor
  · rintro ⟨k, s, h1, h2, h3⟩
    rcases List.mem_append.1 h3 with h | h
    · exact .inl ⟨k, s, h1, h2, h⟩
    · exact .inr ⟨k, s, h1, h2, h⟩
  · rintro (⟨k, s, h1, h2, h3⟩ | ⟨k, s, h1, h2, h3⟩)
    · exact ⟨k, s, h1, h2, List.mem_append.2 (.inl h3)⟩
    · exact ⟨k, s, h1, h2, List.mem_append.2 (.inr h3)⟩
def NExprOk (w0 : World) (l : List Ex) (v : Value) : Prop := ∀ x : Ex, x.args = l → x.short → ∀ (W : World) (c bk bf bc : Nat) (ov : Value) (K : Known) (G : List ByteArray) (C : List Int) (n loops : Int), Below w0.heap.size w0 W → w0.heap.size ≤ bf → WAt W c bk bf bc ov K G C n loops →
  Calls Try.prog 107 #[ptrV c, exVal x v] W (fun e W' => e = .returned (.int .i64 (x.nerr K G)) ∧ ∃ C', WAt W' c bk bf bc ov K G C' n loops ∧ Oth (· = bc) W W' ∧ (x.nerr K G = 0 → ∀ i, i ∈ C' ↔ i ∈ C ∨ idxs G x.ncalls i))
theorem ScAt.later {w w' : World} {c bk : Nat} {ov : Value} {K : Known} (h : ScAt w c bk ov K) (hb : Below w.heap.size w w') : ScAt w' c bk ov K := by
  have q := block_lt_of_cell h.c0
  obtain ⟨S, s1, s2⟩ := h.kinds
  exact ⟨(hb.cell (p := ⟨c, 0, none⟩) q).trans h.c0, (hb.cell (p := ⟨c, 1, none⟩) q).trans h.c1, (hb.frozen (p := ⟨c, 1, none⟩) q).trans h.f1, ⟨S, s1.later hb s1.lt, s2⟩, ownsRow_below h.order hb (Nat.le_refl _), h.good, h.lt⟩
theorem WAt.later1 {w w' : World} {c bk bf bc : Nat} {ov : Value} {K : Known} {G : List ByteArray} {C : List Int} {n loops : Int} (h : WAt w c bk bf bc ov K G C n loops) (hb : Below w.heap.size w w') : WAt w' c bk bf bc ov K G C n loops := by
  have q := block_lt_of_cell h.c2
  obtain ⟨S, F, s1, s2⟩ := h.funcs
  exact ⟨h.sc.later hb, (hb.cell (p := ⟨c, 2, none⟩) q).trans h.c2, (hb.cell (p := ⟨c, 3, none⟩) q).trans h.c3, (hb.cell (p := ⟨c, 4, none⟩) q).trans h.c4, (hb.cell (p := ⟨c, 5, none⟩) q).trans h.c5, (hb.frozen (p := ⟨c, 4, none⟩) q).trans h.f4, (hb.frozen (p := ⟨c, 5, none⟩) q).trans h.f5,
    ⟨S, F, s1.later hb s1.lt, s2⟩, h.calls.later hb h.calls.lt, h.few, h.lts⟩
theorem sm_run_ok {w : World} {t e : TypeId} (ht : Try.prog.underlying t = some (.map 9 e)) (hz0 : (zeroValue e).run Try.prog w = .ok (.int .i64 0) w) {b : Nat} {S : List ByteArray} {F : ByteArray → Int} (hown : SMap w b S F) {y : ByteArray} (hs : y.size ≤ maxLen) {z : Int} (hz : F y = z) {r : Bool} (hr : decide (y ∈ S) = r) :
    (Instr.lookup t (.map (some b)) (.string y) true).run Try.prog w = .ok (.tuple #[.int .i64 z, .bool r]) w := by
  obtain ⟨D, h, _, _, hh, hF⟩ := hown
  obtain ⟨v, ps, hrun, hv⟩ := h.look_ok Try.strKey ht hz0 (zd := .lit (.int .i64 0)) (zp := []) rfl (WideMaps.keyOf_string_mk Try.underlying9 hs)
  have hv : numD v = some (D.atKey (keyS y) (.lit (.int .i64 0)), ps) := hv
  rw [hF y, hz] at hv
  have e1 := numD_inv hv
  subst e1
  have e : Maps.has D (.string y.data.toList) = r := by
    rw [← hr, Bool.eq_iff_iff, hh]
    simp only [decide_eq_true_eq]
    constructor
    · rintro ⟨x, hx, e⟩
      rw [keyS_inj (show keyS y = keyS x from e)]; exact hx
    · intro h; exact ⟨y, h, rfl⟩
  rw [e] at hrun
  exact hrun
theorem OwnStrs.oth {S : Nat → Prop} {w w' : World} {B : Nat} {v : Value} {l : List ByteArray} (h : OwnStrs w B v l) (hO : Oth S w w') (hS : ∀ k, v.ownBlock = some k → ¬ S k) : OwnStrs w' B v l := by
  refine ⟨h.1, ?_⟩
  rcases h.2 with h2 | ⟨g, vcap, cur, rfl, hg, hgh, r⟩
  · exact .inl h2
  · refine .inr ⟨g, vcap, cur, rfl, hg, ?_, r⟩
    rw [hO.block g (Array.getElem?_eq_some_iff.1 hgh).1 (hS g rfl)]
    exact hgh
theorem ScAt.oth {S : Nat → Prop} {w w' : World} {c bk : Nat} {ov : Value} {K : Known} (h : ScAt w c bk ov K) (hO : Oth S w w') (hc : ¬ S c) (hb : ¬ S bk) (hS : ∀ k, ov.ownBlock = some k → ¬ S k) : ScAt w' c bk ov K := by
  have q := block_lt_of_cell h.c0
  obtain ⟨Z, s1, s2⟩ := h.kinds
  exact ⟨(hO.cell (p := ⟨c, 0, none⟩) q hc).trans h.c0, (hO.cell (p := ⟨c, 1, none⟩) q hc).trans h.c1, (hO.frozen (p := ⟨c, 1, none⟩) q hc).trans h.f1, ⟨Z, s1.oth hO hb, s2⟩, h.order.oth hO hS, h.good, h.lt⟩
theorem ScAt.own {w : World} {c bk : Nat} {ov : Value} {K : Known} (h : ScAt w c bk ov K) : ∀ k, ov.ownBlock = some k → c < k ∧ k < w.heap.size := fun k e => by
  have := World.ownsRow.lt h.order k e
  exact ⟨by omega, this.2⟩
theorem nodup_subI : ∀ (a b : List Int), a.Nodup → (∀ x ∈ a, x ∈ b) → a.length ≤ b.length
  | [], b, _, _ => by simp
  | x :: a, b, hn, h => by
    obtain ⟨h1, h2⟩ := List.nodup_cons.1 hn
    have hx := h x (by simp)
    have := nodup_subI a (b.erase x) h2 (fun y hy => (List.mem_erase_of_ne (fun e => h1 (by rw [← e]; exact hy))).2 (h y (by simp [hy])))
    rw [List.length_erase_of_mem hx] at this
    have : 0 < b.length := List.length_pos_of_mem hx
    simp only [List.length_cons]; omega
theorem few_le {n : Nat} {S : List Int} (h1 : S.Nodup) (h2 : ∀ x ∈ S, 0 ≤ x ∧ x < (n : Int)) : S.length ≤ n := by
  have := nodup_subI S ((List.range n).map fun (i : Nat) => (i : Int)) h1 fun x hx => by
    obtain ⟨a, b⟩ := h2 x hx
    rw [List.mem_map]
    exact ⟨x.toNat, by simp; omega, by omega⟩
  simpa using this
theorem CMap.nodup {w : World} {b : Nat} {S : List Int} (h : CMap w b S) : S.Nodup := by obtain ⟨D, F, _, h, _⟩ := h; exact h
/-- One more call is noted. -/
theorem WAt.call {w w' : World} {c bk bf bc : Nat} {ov : Value} {K : Known} {G : List ByteArray} {C : List Int} {n loops : Int} (h : WAt w c bk bf bc ov K G C n loops) {i : Nat} (hm : CMap w' bc (insI C (i : Int))) (hO : Oth (· = bc) w w') (hi : i < G.length) : WAt w' c bk bf bc ov K G (insI C (i : Int)) n loops := by
  have q := block_lt_of_cell h.c2
  have l := h.lts
  have o := h.sc.own
  obtain ⟨S, F, s1, s2⟩ := h.funcs
  have k := h.few
  have hr : ∀ j ∈ insI C (i : Int), 0 ≤ j ∧ j < (G.length : Int) := fun j hj => by
    rcases (insI_mem _ _ _).1 hj with rfl | hj
    · omega
    · exact k.1 j hj
  exact ⟨h.sc.oth hO (by omega) (by omega) (fun k e => by have := (o k e).1; omega), (hO.cell (p := ⟨c, 2, none⟩) q (by show ¬ c = bc; omega)).trans h.c2, (hO.cell (p := ⟨c, 3, none⟩) q (by show ¬ c = bc; omega)).trans h.c3, (hO.cell (p := ⟨c, 4, none⟩) q (by show ¬ c = bc; omega)).trans h.c4, (hO.cell (p := ⟨c, 5, none⟩) q (by show ¬ c = bc; omega)).trans h.c5, (hO.frozen (p := ⟨c, 4, none⟩) q (by show ¬ c = bc; omega)).trans h.f4, (hO.frozen (p := ⟨c, 5, none⟩) q (by show ¬ c = bc; omega)).trans h.f5,
    ⟨S, F, s1.oth hO (by omega), s2⟩, hm, ⟨hr, by have := few_le hm.nodup hr; omega, k.2.2⟩, l⟩
set_option maxRecDepth 100000 in
set_option maxHeartbeats 4000000 in
theorem nexpr_any (l : List Ex) (v : Value) (w0 : World) (h : ExsIn w0 l v) : NExprOk w0 l v := by
  induction h with
  | mk l v vs h each ih =>
  intro x hx hsh W c bk bf bc ov K G C n loops hB hcb hK
  obtain ⟨a, cap, rfl, hncap, hcap⟩ := h.form
  obtain ⟨m, hm⟩ : ∃ m, m = l.length := ⟨_, rfl⟩
  have Hm := Lib.hid hm
  have Hrow : Hid (RowOf w0 (.slice a m cap) l.length 4 (fun b o i => ∀ x, l[i]? = some x → ExAt w0 b o x (vs i))) := by rw [hm]; exact h
  have Hih := Lib.hid (And.intro ih each)
  rw [← hm]
  rw [← hm] at hncap
  have hn62 : m ≤ 9223372036854775807 := by have : maxLen ≤ 9223372036854775807 := by decide
                                            omega
  have Hx := Lib.hid (And.intro hx hsh)
  have HK := Lib.hid hK
  have HB := Lib.hid hB
  obtain ⟨W1, hW1⟩ : ∃ W1, W1 = W.alloc (.cells #[.int .i64 x.kind, .int .i64 x.n, .string x.name, .slice a m cap] 44) := ⟨_, rfl⟩
  have hb1 : Below W.heap.size W W1 := by rw [hW1]; exact (Below.refl _ _).alloc (Nat.le_refl _) _
  have he1 : ExAt W1 W.heap.size 0 x (.slice a m cap) := by rw [hW1]; constructor <;> exact World.cell?_alloc_at _ _ _ _ rfl
  have H1 := Lib.hid (And.intro hb1 he1)
  have HW1 := Lib.hid hW1
  unfold exVal
  clear h ih each hm hx hsh hb1 he1 hW1 hB hK
  go_enter Try.func107, Try.ntmps107
  go_upto_region 2 with (fail)
  rw [← HW1.out]
  obtain ⟨i0, i1, i2, i3⟩ := H1.out.2
  simp only [Nat.zero_add] at i1 i2 i3
  have hk := HK.out.later1 H1.out.1
  go_upto_block 0 with (fail)
  have hsz : x.name.size ≤ 16 := ((Ex.short_eq x).1 Hx.out.2).1
  have hsz2 : x.name.size ≤ maxLen := by unfold maxLen; omega
  go_cut [1, 5, 11] (fun _ s5 _ wc => ∃ C', s5 = .int .i64 (x.nown K G) ∧ WAt wc c bk bf bc ov K G C' n loops ∧ Oth (· = bc) W1 wc ∧ (x.nown K G = 0 → ∀ i, i ∈ C' ↔ i ∈ C ∨ (x.kind = 4 ∧ idxs G [x.name] i)))
  case first =>
    obtain ⟨S, hS⟩ := hk.sc.kinds
    have c0 := hk.sc.c0
    have HS := Lib.hid hS
    clear hS
    by_cases h2 : x.kind = 2
    · have Hown : Hid (x.nown K G = needE K x.name false) := by show _ = _; unfold Ex.nown; rw [if_pos h2]
      have hq : (x.kind == 2) = true := by simp [h2]
      go_wp2_with fail
      refine (need_any c bk S K x.name false W1 c0 HS.out.1 hsz2).mono ?_
      rintro e w2 ⟨rfl, hw⟩
      rw [← hw, ← Hown.out]
      clear hw
      go_wp2_with fail
      go_meet
      case rel => exact ⟨C, rfl, hk, Oth.refl _ _, fun _ i => ⟨.inl, fun h => h.elim id fun h => by omega⟩⟩
    by_cases h3 : x.kind = 3
    · have Hown : Hid (x.nown K G = needE K x.name true) := by show _ = _; unfold Ex.nown; rw [if_neg h2, if_pos h3]
      have hq : (x.kind == 3) = true := by simp [h3]
      have hq2 : (x.kind == 2) = false := by simp [h2]
      go_wp2_with fail
      refine (need_any c bk S K x.name true W1 c0 HS.out.1 hsz2).mono ?_
      rintro e w2 ⟨rfl, hw⟩
      rw [← hw, ← Hown.out]
      clear hw
      go_wp2_with fail
      go_meet
      case rel => exact ⟨C, rfl, hk, Oth.refl _ _, fun _ i => ⟨.inl, fun h => h.elim id fun h => by omega⟩⟩
    by_cases h4 : x.kind = 4
    · have hq : (x.kind == 4) = true := by simp [h4]
      have hq2 : (x.kind == 2) = false := by simp [h2]
      have hq3 : (x.kind == 3) = false := by simp [h3]
      have d1 := hk.c2
      have d2 := hk.c3
      go_upto_region 8 with (fail)
      obtain ⟨SF, F, hf1, hf2, hf3⟩ := hk.funcs
      have HKd := Lib.hid (hk.later1 (Below.refl _ _).drew)
      have HFd : Hid (SMap W1.drew bf SF F) := hf1.later (Below.refl _ _).drew hf1.lt
      have HF := Lib.hid (And.intro hf2 hf3)
      by_cases hG : x.name ∈ G
      · obtain ⟨k, hkG⟩ : ∃ k : Nat, G[k]? = some x.name := List.mem_iff_getElem?.1 hG
        have hkl : k < G.length := (List.getElem?_eq_some_iff.1 hkG).1
        have hfew := hk.few
        have hGl : k < 32 := by omega
        have Hown : Hid (x.nown K G = 0) := by show _ = _; unfold Ex.nown; rw [if_neg h2, if_neg h3, if_neg (fun h => h.2 hG)]
        have HG := Lib.hid (And.intro hkG (And.intro hkl (And.intro hfew h4)))
        have hrun := sm_run_ok (t := 84) Try.underlying84 (by kernel_rfl) HFd.out hsz2 (hf3 k x.name hkG) (decide_eq_true ((hf2 _).2 hG))
        have hCl : C.length ≤ 1000000 := by omega
        clear hf1 hf2 hf3 hG hkG hkl hfew h4
        go_region
        go_goals
        all_goals
          clear hrun
          go_wp2_with (first
            | (at_lookup; refine cm_look rfl _ _ rfl bc C rfl HKd.out.calls (k : Int) rfl (by omega) ?_; intro z)
            | (at_mapUpdate; refine cm_put rfl _ _ _ rfl bc C rfl HKd.out.calls (k : Int) rfl _ rfl (by omega) hCl ?_; intro w5 hm5 hg5; have H5 := Lib.hid (And.intro hm5 hg5); clear hm5 hg5))
          go_meet
          case rel =>
            have hO5 : Oth (· = bc) W1 w5 := (Oth.of_below (Below.refl _ _).drew).trans (.of_grown H5.out.2)
            refine ⟨insI C (k : Int), by rw [Hown.out], hk.call H5.out.1 hO5 HG.out.2.1, hO5, fun _ i => ?_⟩
            rw [insI_mem, Or.comm]
            refine or_congr Iff.rfl ⟨fun e => ⟨HG.out.2.2.2, k, x.name, e, HG.out.1, by simp⟩, ?_⟩
            rintro ⟨-, k2, s2, rfl, e2, e3⟩
            simp only [List.mem_cons, List.not_mem_nil, or_false] at e3
            have q1 := HF.out.2 k2 s2 e2
            have q2 := HF.out.2 k x.name HG.out.1
            rw [e3] at q1
            omega
      · have Hown : Hid (x.nown K G = 8) := by show _ = _; unfold Ex.nown; rw [if_neg h2, if_neg h3, if_pos ⟨h4, hG⟩]
        have hnS : decide (x.name ∈ SF) = false := decide_eq_false fun h => hG ((hf2 _).1 h)
        obtain ⟨z, hz⟩ : ∃ z, z = F x.name := ⟨_, rfl⟩
        have hrun := sm_run_ok (t := 84) Try.underlying84 (by kernel_rfl) HFd.out hsz2 hz.symm hnS
        clear hf1 hf2 hf3 hG h4 hz hnS
        go_region
        go_goals
        all_goals
          clear hrun
          go_wp2_with fail
          go_ret
        all_goals
          have Herr : x.nerr K G = 8 := by rw [Ex.nerr_eq, Hown.out]; rfl
          exact ⟨by rw [Herr]; rfl, C, HK.out.later1 (H1.out.1.trans (Below.refl _ _).drew), .of_below (H1.out.1.trans (Below.refl _ _).drew), fun h => by rw [Herr] at h; omega⟩
    · have Hown : Hid (x.nown K G = 0) := by show _ = _; unfold Ex.nown; rw [if_neg h2, if_neg h3, if_neg (fun h => h4 h.1)]
      have hq : (x.kind == 4) = false := by simp [h4]
      have hq2 : (x.kind == 2) = false := by simp [h2]
      have hq3 : (x.kind == 3) = false := by simp [h3]
      have H4 := Lib.hid h4
      clear h4
      go_wp2_with fail
      go_meet
      case rel => exact ⟨C, by rw [Hown.out], hk, Oth.refl _ _, fun _ i => ⟨.inl, fun h => h.elim id fun h => absurd h.1 H4.out⟩⟩
  case rest =>
    obtain ⟨C1, rfl, hK1, hO1, hC1⟩ := hcut
    obtain ⟨V, hV⟩ : ∃ V : World, V = wc := ⟨_, rfl⟩
    subst hV
    have q1 : W.heap.size < W1.heap.size := block_lt_of_cell i0
    have hlb := hk.lts
    have hbc : bc < c := hlb.2.2
    have hbf : w0.heap.size ≤ bc := by omega
    have qc : c < W.heap.size := block_lt_of_cell HK.out.c2
    have heV := H1.out.2.oth hO1 q1 (by omega)
    have hBV : Below w0.heap.size w0 V := (HB.out.trans (H1.out.1.mono HB.out.size)).trans (hO1.below (Nat.le_trans HB.out.size (by omega)) fun _ e => by omega)
    have HBV := Lib.hid hBV
    have HK1 := Lib.hid (And.intro hK1 (And.intro ((Oth.of_below (S := (· = bc)) H1.out.1).trans hO1) hC1))
    have q2 := hO1.size
    have Hlb := Lib.hid hlb
    clear hk i0 i1 i2 i3 hK1 hO1 hC1 hBV hlb
    obtain ⟨e0, he0⟩ : ∃ e, e = x.nown K G := ⟨_, rfl⟩
    have He0 := Lib.hid he0
    rw [← he0]
    obtain ⟨i0, i1, i2, i3⟩ := heV
    simp only [Nat.zero_add] at i3
    clear he0 i0 i1 i2
    go_wp2_with fail
    go_loopg [5, 48] m (fun g ev iv wx => ∃ (i : Nat) (e : Int) (Ci : List Int), g = m - i ∧ ev = .int .i64 e ∧ iv = .int .i64 (i : Int) ∧ i ≤ m ∧ WAt wx c bk bf bc ov K G Ci n loops ∧ Oth (· = bc) V wx ∧
      ((e = 0 ∧ x.nown K G = 0 ∧ (∀ j y, j < i → l[j]? = some y → y.nerr K G = 0) ∧ ∀ z, z ∈ Ci ↔ z ∈ C1 ∨ idxs G (Ex.ncallss (l.take i)) z) ∨ (e ≠ 0 ∧ x.nerr K G = e)))
    case atStart =>
      refine ⟨0, e0, C1, rfl, rfl, rfl, Nat.zero_le _, HK1.out.1, Oth.refl _ _, ?_⟩
      by_cases h : e0 = 0
      · exact .inl ⟨h, by rw [← He0.out]; exact h, fun j y h => by omega, fun z => by simp [Ex.ncallss, idxs]⟩
      · exact .inr ⟨h, by rw [Ex.nerr_eq, ← He0.out, if_pos h]⟩
    case round =>
      obtain ⟨i, e, Ci, hg, rfl, rfl, hi, hK, hO, hp⟩ := hrel
      have Hg := Lib.hid hg
      have HKi := Lib.hid (And.intro hK (And.intro hO hp))
      have hBr : Below w0.heap.size w0 wr := HBV.out.trans (hO.below HBV.out.size fun _ e => by omega)
      have HBr := Lib.hid hBr
      clear hg hK hO hp
      by_cases hin : i < m
      · obtain ⟨y, hy⟩ : ∃ y, l[i]? = some y := ⟨_, List.getElem?_eq_getElem (by rw [← Hm.out]; exact hin)⟩
        obtain ⟨b, off, rfl, hb, hP⟩ := Hrow.out.at (i := i) (by rw [← Hm.out]; exact hin)
        have hey := (hP y hy).later hBr hb
        have ihy := Hih.out.1 i y hy y rfl (Ex.shorts_at ((Ex.short_eq x).1 Hx.out.2).2 (by rw [Hx.out.1]; exact hy))
        obtain ⟨a', cap', hvs, -⟩ := (Hih.out.2 i y hy).form
        obtain ⟨m', hm'⟩ : ∃ m', m' = y.args.length := ⟨_, rfl⟩
        rw [hvs, ← hm'] at hey ihy
        obtain ⟨i0, i1, i2, i4⟩ := hey
        obtain ⟨W4, hW4⟩ : ∃ W4, W4 = wr.alloc (.cells #[.int .i64 y.kind, .int .i64 y.n, .string y.name, .slice a' m' cap'] 44) := ⟨_, rfl⟩
        have hb4 : Below wr.heap.size wr W4 := by rw [hW4]; exact (Below.refl _ _).alloc (Nat.le_refl _) _
        have he4 : ExAt W4 wr.heap.size 0 y (.slice a' m' cap') := by rw [hW4]; constructor <;> exact World.cell?_alloc_at _ _ _ _ rfl
        have H4 := Lib.hid (And.intro (HKi.out.1.later1 hb4) (And.intro (Oth.of_below (S := (· = bc)) hb4) (And.intro (hBr.trans (hb4.mono hBr.size)) (And.intro ihy hy))))
        have HW4 := Lib.hid hW4
        have He4 := Lib.hid he4
        clear hBr hP hy ihy hvs hm' hb4 he4 hW4 i3
        go_upto_region 15 with (fail)
        rw [← HW4.out]
        obtain ⟨j0, j1, j2, j3⟩ := He4.out
        simp only [Nat.zero_add] at j0 j1 j2 j3
        clear i0 i1 i2 i4
        by_cases hez : e = 0
        · subst hez
          obtain ⟨p1, p2, p3⟩ : x.nown K G = 0 ∧ (∀ j y, j < i → l[j]? = some y → y.nerr K G = 0) ∧ ∀ z, z ∈ Ci ↔ z ∈ C1 ∨ idxs G (Ex.ncallss (l.take i)) z := by
            rcases HKi.out.2.2 with h | h
            · exact h.2
            · exact absurd rfl h.1
          have Hp := Lib.hid (And.intro p1 (And.intro p2 p3))
          clear p1 p2 p3
          go_wp2_with fail
          refine (H4.out.2.2.2.1 W4 c bk bf bc ov K G Ci n loops H4.out.2.2.1 hcb H4.out.1).mono ?_
          rintro e w5 ⟨rfl, C5, hK5, hO5, hC5⟩
          have H5 := Lib.hid (And.intro hK5 (And.intro (H4.out.2.1.trans hO5) hC5))
          clear hK5 hO5 hC5 j0 j1 j2 j3
          obtain ⟨e5, he5⟩ : ∃ e5, e5 = y.nerr K G := ⟨_, rfl⟩
          rw [← he5]
          have He5 := Lib.hid he5
          clear he5
          go_wp2_with fail
          go_roundg (m - (i + 1))
          case measure => have := Hg.out; omega
          case rel =>
            refine ⟨i + 1, e5, C5, rfl, rfl, by go_num, hin, H5.out.1, HKi.out.2.1.trans H5.out.2.1, ?_⟩
            have hyi := H4.out.2.2.2.2
            by_cases hz : e5 = 0
            · refine .inl ⟨hz, Hp.out.1, ?_, ?_⟩
              · intro j z hj hz2
                by_cases e : j = i
                · subst e
                  rw [hyi] at hz2
                  cases hz2; rw [← He5.out]; exact hz
                · exact Hp.out.2.1 j z (by omega) hz2
              · intro z
                rw [H5.out.2.2 (by rw [← He5.out]; exact hz) z, Hp.out.2.2 z, Ex.ncallss_take hyi, idxs_append, or_assoc]
            · refine .inr ⟨hz, ?_⟩
              rw [Ex.nerr_eq, if_neg (by rw [Hp.out.1]; decide), Hx.out.1, Ex.nerrs_stop hyi Hp.out.2.1 (by rw [← He5.out]; exact hz), He5.out]
        · have Hres : Hid (x.nerr K G = e) := by
            rcases HKi.out.2.2 with h | h
            · exact absurd h.1 hez
            · exact h.2
          have hq : (e != 0) = true := by simp [hez]
          have Hez := Lib.hid hez
          clear j0 j1 j2 j3 hez
          go_wp2_with fail
          go_ret
          exact ⟨by rw [Hres.out]; rfl, Ci, H4.out.1, HK1.out.2.1.trans (HKi.out.2.1.trans H4.out.2.1), fun h => absurd (by rw [← Hres.out]; exact h) Hez.out⟩
      · obtain rfl : m = i := by omega
        have ht : l.take m = l := List.take_of_length_le (by rw [← Hm.out]; exact Nat.le_refl _)
        have Hres : Hid (x.nerr K G = e ∧ (x.nerr K G = 0 → ∀ i, i ∈ Ci ↔ i ∈ C ∨ idxs G x.ncalls i)) := by
          rcases HKi.out.2.2 with h | h
          · have hr : x.nerr K G = 0 := by rw [Ex.nerr_eq, if_neg (by rw [h.2.1]; decide), Hx.out.1]; exact Ex.nerrs_none fun j y hy => h.2.2.1 j y (by rw [Hm.out]; exact (List.getElem?_eq_some_iff.1 hy).1) hy
            refine ⟨by rw [hr, h.1], fun _ i => ?_⟩
            rw [h.2.2.2 i, HK1.out.2.2 h.2.1 i, Ex.ncalls_eq, idxs_append, Hx.out.1, ht, or_assoc]
            refine or_congr Iff.rfl (or_congr ?_ Iff.rfl)
            by_cases h4 : x.kind = 4
            · rw [if_pos h4]; simp [h4]
            · rw [if_neg h4]; simp [h4, idxs]
          · exact ⟨h.2, fun h0 => absurd (by rw [← h.2]; exact h0) h.1⟩
        clear hBr hin i3
        go_wp2_with fail
        go_ret
        exact ⟨by rw [Hres.out.1]; rfl, Ci, HKi.out.1, HK1.out.2.1.trans HKi.out.2.1, Hres.out.2⟩
end Go.Proofs.Ytneibcpgengdnaa
