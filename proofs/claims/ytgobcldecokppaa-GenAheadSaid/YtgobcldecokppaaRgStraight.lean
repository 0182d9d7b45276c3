/- ranges.Straight. -/
import Derived.Test.YtgobcldecokppaaRgCheck
import Derived.Test.YtgobcldecokppaaRgEvery
import Derived.Test.YtgobcldecokppaaNmSorted
/- ranges.alone: does a function go straight on by itself. -/
namespace Go.Proofs.Ytgobcldecokppaa
open Go.RowKit Go.Maps

theorem rgBytes_eqb (a b : ByteArray) : (a.toList == b.toList) = decide (a = b) := by
  rw [Bool.eq_iff_iff, beq_iff_eq, decide_eq_true_eq]
  constructor
  · intro h
    rw [ByteArray.toList_eq, ByteArray.toList_eq] at h
    have : a.data = b.data := Array.toList_inj.1 h
    cases a; cases b; simp_all
  · intro h; rw [h]
set_option maxRecDepth 100000 in
set_option maxHeartbeats 1000000 in
theorem upper1_any (Bx : Nat) (s : ByteArray) (x : St) (va vb vd ve vc : Value) (vk : Nat → Value) (n : Int) (w0 V : World) (hx : StVals w0 x va vb vd ve vc vk) (hs : V.cell? ⟨Bx, 2, none⟩ = some (.string s)) :
    Calls Try.prog 55 #[stVal x va vb vd ve vc, .int .i64 n, .pointer (some ⟨Bx, 0, none⟩)] V (Gives (.bool (keepsQ s () x n).2) V) := by
  obtain ⟨aa, ca, rfl, -⟩ := hx.a.form
  obtain ⟨ab, cb, rfl, -⟩ := hx.b.form
  obtain ⟨ad, cd, rfl, -⟩ := hx.d.form
  obtain ⟨ae, ce, rfl, -⟩ := hx.e.form
  obtain ⟨ac, cc, rfl, hcc1, hcc2⟩ := hx.c.form
  obtain ⟨na, hna⟩ : ∃ n, n = x.a.args.length := ⟨_, rfl⟩
  obtain ⟨nb, hnb⟩ : ∃ n, n = x.b.args.length := ⟨_, rfl⟩
  obtain ⟨nd, hnd⟩ : ∃ n, n = x.body.length := ⟨_, rfl⟩
  obtain ⟨ne, hne⟩ : ∃ n, n = x.els.length := ⟨_, rfl⟩
  obtain ⟨nc, hnc⟩ : ∃ n, n = x.cases.length := ⟨_, rfl⟩
  rw [← hna, ← hnb, ← hnd, ← hne, ← hnc]
  obtain ⟨W1, hW1⟩ : ∃ W1, W1 = V.alloc (.cells #[.int .i64 x.kind, .string x.name, .int .i64 x.n, .int .i64 x.a.kind, .int .i64 x.a.n, .string x.a.name, .slice aa na ca, .int .i64 x.b.kind, .int .i64 x.b.n, .string x.b.name, .slice ab nb cb, .slice ad nd cd, .slice ae ne ce, .slice ac nc cc] 57) := ⟨_, rfl⟩
  obtain ⟨D, hD⟩ : ∃ D, D = V.heap.size := ⟨_, rfl⟩
  have hb1 : Below V.heap.size V W1 := by rw [hW1]; exact (Below.refl _ _).alloc (Nat.le_refl _) _
  have hs1 : StAt W1 D 0 x (.slice aa na ca) (.slice ab nb cb) (.slice ad nd cd) (.slice ae ne ce) (.slice ac nc cc) := by rw [hW1, hD]; exact StAt.box V x _ _ _ _ _ _
  have hc1 := (hb1.cell (p := ⟨Bx, 2, none⟩) (block_lt_of_cell hs)).trans hs
  have HW1 := Lib.hid (And.intro hW1 hD)
  have Hb1 := Lib.hid hb1
  have i0 := hs1.c0
  have i1 := hs1.c1
  simp only [Nat.zero_add] at i1
  obtain ⟨r, hr⟩ : ∃ r, r = (keepsQ s () x n).2 := ⟨_, rfl⟩
  obtain ⟨kk, hkk⟩ : ∃ kk, kk = x.kind := ⟨_, rfl⟩
  obtain ⟨nm, hnm⟩ : ∃ nm, nm = x.name := ⟨_, rfl⟩
  have Hr : Hid (r = (decide (kk ≠ 3) || !(nm.toList == s.toList))) := by
    show _ = _
    rw [hr, hkk, hnm, rgBytes_eqb]
    unfold keepsQ
    by_cases h1 : x.kind = 3 <;> by_cases h2 : x.name = s <;> simp [h1, h2]
  rw [← hr]
  rw [← hkk] at i0
  rw [← hnm] at i1
  unfold stVal
  clear hx hs hna hnb hnd hne hnc hW1 hD hb1 hs1 hcc1 hcc2 hr hkk hnm
  go_enter Try.func55, Try.ntmps55
  go_upto_region 1 with (fail)
  rw [← HW1.out.1, ← HW1.out.2]
  by_cases h3 : kk = 3
  · subst h3
    have Hr2 : Hid (r = !(nm.toList == s.toList)) := by show _ = _; rw [Hr.out]; rfl
    clear Hr
    go_wp2_with fail
    go_ret
    exact ⟨by rw [Hr2.out]; try rfl, Hb1.out⟩
  · have hq : (kk != 3) = true := by simp [h3]
    have Hr2 : Hid (r = true) := by show _ = _; rw [Hr.out]; simp [h3]
    clear Hr h3
    go_wp2_with fail
    go_ret
    exact ⟨by rw [Hr2.out]; try rfl, Hb1.out⟩
theorem upper1_visits (w0 : World) (Bx : Nat) (s : ByteArray) : Visits w0 (fun _ (_ : Unit) V => V.cell? ⟨Bx, 2, none⟩ = some (.string s)) (fun _ => False) 55 #[.pointer (some ⟨Bx, 0, none⟩)] .nilFunc (keepsQ s) (fun u _ => u) :=
  ⟨fun args w => enters Try.func55 (by kernel_rfl) (c := _) (by rfl) args w, fun _ _ _ _ _ _ h hb => (hb.cell (p := ⟨Bx, 2, none⟩) (block_lt_of_cell h)).trans h,
    fun g s' x va vb vd ve vc vk n V hI hB hf hx _ _ => (upper1_any Bx s x va vb vd ve vc vk n w0 V hx hI).mono fun e V' h => ⟨h.1, (h.2.cell (p := ⟨Bx, 2, none⟩) (block_lt_of_cell hI)).trans hI, .of_below h.2⟩,
    .inl ⟨rfl, fun _ _ => rfl⟩⟩
/-- What is known of a function whose form is right. -/
structure FineFn (w0 : World) (f : Fn) (vp vb : Value) : Prop where
  params : RowOf w0 vp f.params.length 3 (fun b o k => ∀ y, f.params[k]? = some y → PmAt w0 b o y)
  body : StsIn w0 f.body vb
  good : f.Good
  rng : St.rngs f.body
def fnV (f : Fn) (vp vb : Value) : Value := .agg #[.string f.name, vp, vb]
set_option maxRecDepth 100000 in
set_option maxHeartbeats 4000000 in
/-- ranges.upper. -/
theorem upper_any (f : Fn) (vp vb : Value) (x : Ex) (a : Option Addr) (cap : Nat) (w0 W : World) (hf : FineFn w0 f vp vb) (hB : Below w0.heap.size w0 W) :
    Calls Try.prog 38 #[fnV f vp vb, exVal x (.slice a x.args.length cap)] W (Gives (.bool (upperB f x)) W) := by
  obtain ⟨ap, cp, rfl, hpc1, hpc2⟩ := hf.params.form
  obtain ⟨ab, cb, rfl, -⟩ := hf.body.form
  obtain ⟨hfp, hfb, hfg, hfr⟩ := hf
  obtain ⟨m, hm⟩ : ∃ n, n = x.args.length := ⟨_, rfl⟩
  obtain ⟨np, hnp⟩ : ∃ n, n = f.params.length := ⟨_, rfl⟩
  obtain ⟨nb, hnb⟩ : ∃ n, n = f.body.length := ⟨_, rfl⟩
  have Hrp : Hid (RowOf w0 (.slice ap np cp) f.params.length 3 (fun b o k => ∀ y, f.params[k]? = some y → PmAt w0 b o y)) := by rw [hnp]; exact hfp
  rw [← hm, ← hnp, ← hnb]
  rw [← hnb] at hfb
  rw [← hnp] at hpc1
  have hnp8 : np ≤ 8 := by rw [hnp]; exact hfg.few
  have HF := Lib.hid (And.intro hfb (And.intro hfg (And.intro hfr hnp)))
  obtain ⟨W1, hW1⟩ : ∃ W1, W1 = (W.alloc (.cells #[.string f.name, .slice ap np cp, .slice ab nb cb] 49)).alloc (.cells #[.int .i64 x.kind, .int .i64 x.n, .string x.name, .slice a m cap] 52) := ⟨_, rfl⟩
  obtain ⟨D, hD⟩ : ∃ D, D = W.heap.size := ⟨_, rfl⟩
  have hb1 : Below W.heap.size W W1 := by rw [hW1]; exact ((Below.refl _ _).alloc (Nat.le_refl _) _).alloc (by (try simp only [World.size_alloc]); (try simp only [size_set]); omega) _
  have q1 : (W.alloc (.cells #[.string f.name, .slice ap np cp, .slice ab nb cb] 49)).heap.size = D + 1 := by rw [hD]; simp
  have hfc : FnCells W1 D 0 f (.slice ap np cp) (.slice ab nb cb) := by
    have k : FnCells (W.alloc (.cells #[.string f.name, .slice ap np cp, .slice ab nb cb] 49)) D 0 f (.slice ap np cp) (.slice ab nb cb) := by rw [hD]; constructor <;> exact World.cell?_alloc_at _ _ _ _ rfl
    rw [hW1]
    exact k.later ((Below.refl _ _).alloc (Nat.le_refl _) _) (by omega)
  have hex : ExAt W1 (D + 1) 0 x (.slice a m cap) := by rw [hW1, ← q1]; exact ExAt.boxed _ _ _ _
  have H1 := Lib.hid (And.intro hb1 (And.intro hfc hex))
  have HW1 := Lib.hid (And.intro hW1 hD)
  have HB := Lib.hid hB
  obtain ⟨r, hr⟩ : ∃ r, r = upperB f x := ⟨_, rfl⟩
  obtain ⟨kk, hkk⟩ : ∃ kk, kk = x.kind := ⟨_, rfl⟩
  obtain ⟨o, ho⟩ : ∃ o, o = (St.ovrs (keepsQ x.name) (fun u _ => u) 0 f.body ()).2 := ⟨_, rfl⟩
  have Hr : Hid (r = (decide (kk = 2) && (f.params.any (fun y => decide (y.name = x.name)) && o))) := by show _ = _; rw [hr, hkk, ho]; rfl
  have Ho := Lib.hid ho
  rw [← hr]
  obtain ⟨k0, k1, k2, k3⟩ := hex
  simp only [Nat.zero_add] at k1 k2 k3
  rw [← hkk] at k0
  have i1 := hfc.c1
  simp only [Nat.zero_add] at i1
  unfold fnV exVal
  have hz1 : D + 2 ≤ W1.heap.size ∧ W1.heap.size ≤ D + 2 := by rw [hW1]; simp; omega
  clear hfp hfb hfg hfr hm hnp hnb hpc1 hpc2 hB hW1 hD hb1 hfc hr hkk ho q1
  go_enter Try.func38, Try.ntmps38
  go_upto_region 1 with (fail)
  rw [← HW1.out.1, ← HW1.out.2]
  by_cases h2 : kk = 2
  · subst h2
    have Hr2 : Hid (r = (f.params.any (fun y => decide (y.name = x.name)) && o)) := by show _ = _; rw [Hr.out]; rfl
    clear Hr k1 k3
    go_wp2_with fail
    clear i1 k2 k0
    go_loopg [13] np (fun g jv wx => ∃ j : Nat, g = np - j ∧ jv = .int .i64 (j : Int) ∧ j ≤ np ∧ (f.params.take j).any (fun y => decide (y.name = x.name)) = false ∧ Below W1.heap.size W1 wx)
    case atStart => exact ⟨0, rfl, rfl, Nat.zero_le _, rfl, Below.refl _ _⟩
    case round =>
      obtain ⟨j, hg, rfl, hj, hp, hb⟩ := hrel
      have HK := Lib.hid (And.intro hp hb)
      have Hg := Lib.hid hg
      clear hp hg
      by_cases hjn : j < np
      · obtain ⟨y, hy⟩ : ∃ y, f.params[j]? = some y := ⟨_, List.getElem?_eq_getElem (by rw [← HF.out.2.2.2]; exact hjn)⟩
        obtain ⟨by_, oy, rfl, hby, hPy⟩ := Hrp.out.at (i := j) (by rw [← HF.out.2.2.2]; exact hjn)
        have hbw : Below w0.heap.size w0 wr := HB.out.trans ((H1.out.1.trans (hb.mono H1.out.1.size)).mono HB.out.size)
        obtain ⟨p0, p1, p2⟩ := (hPy y hy).later hbw hby
        obtain ⟨W3, hW3⟩ : ∃ W3, W3 = wr.alloc (.cells #[.string y.name, .int .i64 y.lo, .int .i64 y.hi] 54) := ⟨_, rfl⟩
        obtain ⟨D3, hD3⟩ : ∃ D, D = wr.heap.size := ⟨_, rfl⟩
        have hb3 : Below wr.heap.size wr W3 := by rw [hW3]; exact (Below.refl _ _).alloc (Nat.le_refl _) _
        have hp3 : PmAt W3 D3 0 y := by rw [hW3, hD3]; exact PmAt.boxed _ _ _
        have hb13 : Below W1.heap.size W1 W3 := hb.trans (hb3.mono hb.size)
        have i1' := (hb13.cell (p := ⟨D + 1, 2, none⟩) (by show D + 1 < _; omega)).trans (by have := H1.out.2.2.c2; simpa using this)
        have i2' := (hb13.cell (p := ⟨D, 2, none⟩) (by show D < _; omega)).trans (by have := H1.out.2.1.c2; simpa using this)
        have Hany : Hid ((f.params.take (j + 1)).any (fun y => decide (y.name = x.name)) = (y.name.toList == x.name.toList)) := by
          show _ = _
          rw [take_next hy, List.any_append, HK.out.1, rgBytes_eqb]; simp
        have Hhit : Hid ((y.name.toList == x.name.toList) = true → f.params.any (fun y => decide (y.name = x.name)) = true) := fun h => by
          rw [List.any_eq_true]
          exact ⟨y, List.mem_of_getElem? hy, by rw [rgBytes_eqb] at h; exact h⟩
        have H3 := Lib.hid hb13
        have HW3 := Lib.hid (And.intro hW3 hD3)
        have qs := hb.size
        have hD3' : D + 1 < D3 := by omega
        have hW3s : D3 < W3.heap.size := by rw [hW3, hD3]; simp
        clear hy hPy hby hbw hb hW3 hD3 hb3 hb13
        go_upto_region 6 with (fail)
        rw [← HW3.out.1, ← HW3.out.2]
        clear p0 p1 p2
        obtain ⟨p0, p1, p2⟩ := hp3
        clear p1 p2
        obtain ⟨z, hz⟩ : ∃ z, z = (y.name.toList == x.name.toList) := ⟨_, rfl⟩
        have Hz := Lib.hid hz
        rw [← hz] at Hany Hhit
        cases z
        · have hq : (y.name.toList == x.name.toList) = false := hz.symm
          clear hz
          go_wp2_with fail
          go_roundg (np - (j + 1))
          case measure => have := Hg.out; omega
          case rel => exact ⟨j + 1, rfl, by go_num, hjn, Hany.out, H3.out⟩
        · have hq : (y.name.toList == x.name.toList) = true := hz.symm
          have Hro : Hid (r = o) := by show _ = _; rw [Hr2.out, Hhit.out rfl]; rfl
          have Hcall := Lib.hid (over_any w0 _ _ _ _ _ _ _ (upper1_visits w0 (D + 1) x.name) (fun b hb => hb.elim) f.body (.slice ab nb cb) HF.out.1 (St.totals f.body) () 0 W3 i1' (HB.out.trans ((H1.out.1.trans (H3.out.mono H1.out.1.size)).mono HB.out.size)) (fun b hb => hb.elim) HF.out.2.1.body HF.out.2.2.1 (Nat.le_refl _) (by decide) (by have := HF.out.2.1.total; omega))
          rw [← Ho.out] at Hcall
          unfold visV at Hcall
          clear hz
          go_wp2_with fail
          refine Hcall.out.mono ?_
          rintro e w4 ⟨rfl, -, hO4⟩
          have H4 := Lib.hid (H3.out.trans (hO4.below (B := W1.heap.size) (by have := H3.out.size; omega) (fun b hb => hb.elim)))
          clear hO4 i1' i2' p0 Hcall
          go_wp2_with fail
          go_ret
          exact ⟨by rw [Hro.out]; try rfl, H1.out.1.trans (H4.out.mono H1.out.1.size)⟩
      · obtain rfl : np = j := by omega
        have Hres : Hid (r = false) := by
          show _ = _
          have h := HK.out.1
          rw [List.take_of_length_le (by rw [← HF.out.2.2.2]; exact Nat.le_refl _)] at h
          rw [Hr2.out, h]; rfl
        clear hb hjn
        go_wp2_with fail
        go_ret
        exact ⟨by rw [Hres.out]; try rfl, H1.out.1.trans (HK.out.2.mono H1.out.1.size)⟩
  · have hq : (kk != 2) = true := by simp [h2]
    have Hr2 : Hid (r = false) := by show _ = _; rw [Hr.out]; simp [h2]
    clear Hr h2
    go_wp2_with fail
    go_ret
    exact ⟨by rw [Hr2.out]; try rfl, H1.out.1⟩
end Go.Proofs.Ytgobcldecokppaa

/- ranges.alone: its look at a statement, and over all. -/
namespace Go.Proofs.Ytgobcldecokppaa
open Go.RowKit Go.Maps

def tailQ (x : St) : Bool := x.a.evr stillQ && x.b.evr stillQ
/-- What alone's closure holds. -/
structure AloI (f : Fn) (vp vb : Value) (params : Bool) (bP bF : Nat) (V : World) : Prop where
  cP : V.cell? ⟨bP, 0, none⟩ = some (.bool params)
  cF : FnCells V bF 0 f vp vb
theorem AloI.later {f : Fn} {vp vb : Value} {params : Bool} {bP bF : Nat} {V V' : World} (h : AloI f vp vb params bP bF V) (hb : Below V.heap.size V V') : AloI f vp vb params bP bF V' :=
  ⟨(hb.cell (p := ⟨bP, 0, none⟩) (block_lt_of_cell h.cP)).trans h.cP, h.cF.later hb (block_lt_of_cell h.cF.c0)⟩
set_option maxRecDepth 100000 in
set_option maxHeartbeats 8000000 in
theorem alone1_any (f : Fn) (vp vbf : Value) (params : Bool) (bP bF : Nat) (x : St) (va vb vd ve vc : Value) (vk : Nat → Value) (n : Int) (w0 V : World) (hfn : FineFn w0 f vp vbf) (hI : AloI f vp vbf params bP bF V) (hB : Below w0.heap.size w0 V) (hf : FineSt x) (hx : StVals w0 x va vb vd ve vc vk) :
    Calls Try.prog 36 #[stVal x va vb vd ve vc, .int .i64 n, .pointer (some ⟨bP, 0, none⟩), .pointer (some ⟨bF, 0, none⟩)] V (Gives (.bool (aloneQ f params () x n).2) V) := by
  obtain ⟨aa, ca, rfl, hca, -⟩ := hx.a.form
  obtain ⟨ab, cb, rfl, -⟩ := hx.b.form
  obtain ⟨ad, cd, rfl, -⟩ := hx.d.form
  obtain ⟨ae, ce, rfl, -⟩ := hx.e.form
  obtain ⟨ac, cc, rfl, hcc1, hcc2⟩ := hx.c.form
  have hxa := hx.a
  have hxb := hx.b
  have hpa : ∀ W, Below w0.heap.size w0 W → _ := fun W hW => rgPlain_any x.a _ w0 W hxa ((St.fine_eq x).1 hf.fine).2.1 hW
  have hpb : ∀ W, Below w0.heap.size w0 W → _ := fun W hW => rgPlain_any x.b _ w0 W hxb ((St.fine_eq x).1 hf.fine).2.2.1 hW
  have hsa : ∀ W, Below w0.heap.size w0 W → _ := fun W hW => rgStill_any x.a _ w0 W hxa ((St.fine_eq x).1 hf.fine).2.1 hW
  have hsb : ∀ W, Below w0.heap.size w0 W → _ := fun W hW => rgStill_any x.b _ w0 W hxb ((St.fine_eq x).1 hf.fine).2.2.1 hW
  have hup : ∀ W, Below w0.heap.size w0 W → _ := fun W hW => upper_any f vp vbf x.b ab cb w0 W hfn hW
  obtain ⟨ap, cp, rfl, -⟩ := hfn.params.form
  obtain ⟨abf, cbf, rfl, -⟩ := hfn.body.form
  obtain ⟨np, hnp⟩ : ∃ n, n = f.params.length := ⟨_, rfl⟩
  obtain ⟨nbf, hnbf⟩ : ∃ n, n = f.body.length := ⟨_, rfl⟩
  obtain ⟨na, hna⟩ : ∃ n, n = x.a.args.length := ⟨_, rfl⟩
  obtain ⟨nb, hnb⟩ : ∃ n, n = x.b.args.length := ⟨_, rfl⟩
  obtain ⟨nd, hnd⟩ : ∃ n, n = x.body.length := ⟨_, rfl⟩
  obtain ⟨ne, hne⟩ : ∃ n, n = x.els.length := ⟨_, rfl⟩
  obtain ⟨nc, hnc⟩ : ∃ n, n = x.cases.length := ⟨_, rfl⟩
  rw [← hnp, ← hnbf] at hI
  rw [← hnp, ← hnbf, ← hnb] at hup
  rw [← hna] at hpa hsa
  rw [← hnb] at hpb hsb
  rw [← hna, ← hnb, ← hnd, ← hne, ← hnc]
  unfold exVal at hpa hpb hsa hsb hup
  unfold fnV at hup
  obtain ⟨W1, hW1⟩ : ∃ W1, W1 = V.alloc (.cells #[.int .i64 x.kind, .string x.name, .int .i64 x.n, .int .i64 x.a.kind, .int .i64 x.a.n, .string x.a.name, .slice aa na ca, .int .i64 x.b.kind, .int .i64 x.b.n, .string x.b.name, .slice ab nb cb, .slice ad nd cd, .slice ae ne ce, .slice ac nc cc] 57) := ⟨_, rfl⟩
  obtain ⟨D, hD⟩ : ∃ D, D = V.heap.size := ⟨_, rfl⟩
  have hb1 : Below V.heap.size V W1 := by rw [hW1]; exact (Below.refl _ _).alloc (Nat.le_refl _) _
  have hs1 : StAt W1 D 0 x (.slice aa na ca) (.slice ab nb cb) (.slice ad nd cd) (.slice ae ne ce) (.slice ac nc cc) := by rw [hW1, hD]; exact StAt.box V x _ _ _ _ _ _
  have hI1 := hI.later hb1
  have HW1 := Lib.hid (And.intro hW1 hD)
  have H1 := Lib.hid (And.intro hb1 (And.intro hs1 (And.intro hI1 (hB.trans (hb1.mono hB.size)))))
  have Hc := Lib.hid (And.intro hpa (And.intro hpb (And.intro hsa (And.intro hsb hup))))
  obtain ⟨r, hr⟩ : ∃ r, r = (aloneQ f params () x n).2 := ⟨_, rfl⟩
  obtain ⟨kk, hkk⟩ : ∃ kk, kk = x.kind := ⟨_, rfl⟩
  have Hr : Hid (r = (!(decide (kk = 5 ∨ kk = 6 ∨ kk = 8)) && (!(decide (kk = 9 ∧ 0 < n)) && ((decide (kk ≠ 7) || (x.a.evr plainQ && (x.b.evr plainQ || (params && upperB f x.b)))) && tailQ x)))) := by show _ = _; rw [hr, hkk]; rfl
  rw [← hr]
  obtain ⟨i0, i1, i2, i3, i4, i5, i6, i7, i8, i9, i10, i11, i12, i13⟩ := id hs1
  simp only [Nat.zero_add] at i0 i1 i2 i3 i4 i5 i6 i7 i8 i9 i10 i11 i12 i13
  rw [← hkk] at i0
  have hDl : D < W1.heap.size := block_lt_of_cell i0
  unfold stVal
  clear hx hf hfn hI hB hxa hxb hpa hpb hsa hsb hup hna hnb hnd hne hnc hnp hnbf hW1 hD hb1 hs1 hI1 hcc1 hcc2 hr hca i1 i2 i11 i12 i13
  go_enter Try.func36, Try.ntmps36
  go_upto_region 1 with (fail)
  rw [← HW1.out.1, ← HW1.out.2]
  go_upto_block 0 with (fail)
  rw [← hkk]
  clear hkk
  go_cut [] (fun wc => r = tailQ x ∧ Below W1.heap.size W1 wc)
  case first =>
    by_cases h5 : kk = 5 ∨ kk = 6 ∨ kk = 8
    · have Hres : Hid (r = false) := by show _ = _; rw [Hr.out, decide_eq_true h5]; rfl
      clear i3 i4 i5 i6 i7 i8 i9 i10 Hr
      rcases h5 with rfl | rfl | rfl
      all_goals
        go_wp2_with fail
        go_ret
        exact ⟨by rw [Hres.out]; try rfl, H1.out.1⟩
    · have q5 : (kk == 5) = false := by simp; omega
      have q6 : (kk == 6) = false := by simp; omega
      have q8 : (kk == 8) = false := by simp; omega
      by_cases h9 : kk = 9
      · subst h9
        clear i3 i4 i5 i6 i7 i8 i9 i10 q5 q6 q8 h5
        by_cases hn : 0 < n
        · have Hres : Hid (r = false) := by show _ = _; rw [Hr.out, decide_eq_true (p := (9 : Int) = 9 ∧ 0 < n) ⟨rfl, hn⟩]; rfl
          have hq : decide (0 < n) = true := decide_eq_true hn
          clear hn Hr
          go_wp2_with fail
          go_ret
          exact ⟨by rw [Hres.out]; try rfl, H1.out.1⟩
        · have Hres : Hid (r = tailQ x) := by show _ = _; rw [Hr.out, decide_eq_false (p := (9 : Int) = 9 ∧ 0 < n) (fun h => hn h.2)]; rfl
          have hq : decide (0 < n) = false := decide_eq_false hn
          clear hn Hr
          go_wp2_with fail
          go_meet
          case rel => exact ⟨Hres.out, Below.refl _ _⟩
      · by_cases h7 : kk = 7
        · subst h7
          have Hr7 : Hid (r = ((x.a.evr plainQ && (x.b.evr plainQ || (params && upperB f x.b))) && tailQ x)) := by show _ = _; rw [Hr.out]; rfl
          clear q5 q6 q8 h5 h9 Hr
          have Hca := Lib.hid (Hc.out.1 W1 H1.out.2.2.2)
          go_wp2_with fail
          refine Hca.out.mono ?_
          rintro e w2 ⟨rfl, hb2⟩
          obtain ⟨z, hz⟩ : ∃ z, z = x.a.evr plainQ := ⟨_, rfl⟩
          rw [← hz]
          rw [← hz] at Hr7
          have H2 := Lib.hid hb2
          have i7' := (hb2.cell (p := ⟨D, 7, none⟩) hDl).trans i7
          have i8' := (hb2.cell (p := ⟨D, 8, none⟩) hDl).trans i8
          have i9' := (hb2.cell (p := ⟨D, 9, none⟩) hDl).trans i9
          have i10' := (hb2.cell (p := ⟨D, 10, none⟩) hDl).trans i10
          clear hz hb2 Hca i0 i3 i4 i5 i6 i7 i8 i9 i10
          cases z
          · have Hres : Hid (r = false) := by show _ = _; rw [Hr7.out]; rfl
            go_wp2_with fail
            go_ret
            exact ⟨by rw [Hres.out]; try rfl, H1.out.1.trans (H2.out.mono H1.out.1.size)⟩
          · have Hcb := Lib.hid (Hc.out.2.1 w2 (H1.out.2.2.2.trans (H2.out.mono H1.out.2.2.2.size)))
            go_wp2_with fail
            refine Hcb.out.mono ?_
            rintro e w3 ⟨rfl, hb3⟩
            obtain ⟨z, hz⟩ : ∃ z, z = x.b.evr plainQ := ⟨_, rfl⟩
            rw [← hz]
            rw [← hz] at Hr7
            have hb13 := H2.out.trans (hb3.mono H2.out.size)
            have H3 := Lib.hid hb13
            have j7 := (hb3.cell (p := ⟨D, 7, none⟩) (block_lt_of_cell i7')).trans i7'
            have j8 := (hb3.cell (p := ⟨D, 8, none⟩) (block_lt_of_cell i8')).trans i8'
            have j9 := (hb3.cell (p := ⟨D, 9, none⟩) (block_lt_of_cell i9')).trans i9'
            have j10 := (hb3.cell (p := ⟨D, 10, none⟩) (block_lt_of_cell i10')).trans i10'
            have hI3 := H1.out.2.2.1.later hb13
            have HI3 := Lib.hid hI3
            have cP := hI3.cP
            clear hz hb3 hb13 Hcb i7' i8' i9' i10' hI3
            cases z
            · cases params
              · have Hres : Hid (r = false) := by show _ = _; rw [Hr7.out]; rfl
                clear j7 j8 j9 j10
                go_wp2_with fail
                go_ret
                exact ⟨by rw [Hres.out]; try rfl, H1.out.1.trans (H3.out.mono H1.out.1.size)⟩
              · have Hcu := Lib.hid (Hc.out.2.2.2.2 w3 (H1.out.2.2.2.trans (H3.out.mono H1.out.2.2.2.size)))
                obtain ⟨f0, f1, f2⟩ := HI3.out.cF
                go_wp2_with fail
                refine Hcu.out.mono ?_
                rintro e w4 ⟨rfl, hb4⟩
                obtain ⟨z, hz⟩ : ∃ z, z = upperB f x.b := ⟨_, rfl⟩
                rw [← hz]
                rw [← hz] at Hr7
                have H4 := Lib.hid (H3.out.trans (hb4.mono H3.out.size))
                clear hz hb4 Hcu j7 j8 j9 j10 f0 f1 f2 cP
                cases z
                · have Hres : Hid (r = false) := by show _ = _; rw [Hr7.out]; rfl
                  go_wp2_with fail
                  go_ret
                  exact ⟨by rw [Hres.out]; try rfl, H1.out.1.trans (H4.out.mono H1.out.1.size)⟩
                · have Hres : Hid (r = tailQ x) := by show _ = _; rw [Hr7.out]; rfl
                  go_wp2_with fail
                  go_meet
                  case rel => exact ⟨Hres.out, H4.out⟩
            · have Hres : Hid (r = tailQ x) := by show _ = _; rw [Hr7.out]; rfl
              clear j7 j8 j9 j10 cP
              go_wp2_with fail
              go_meet
              case rel => exact ⟨Hres.out, H3.out⟩
        · have q9 : (kk == 9) = false := by simp [h9]
          have q7 : (kk == 7) = false := by simp [h7]
          have Hres : Hid (r = tailQ x) := by
            show _ = _
            rw [Hr.out, decide_eq_false h5, decide_eq_false (p := kk = 9 ∧ 0 < n) (fun h => h9 h.1), decide_eq_true (p := kk ≠ 7) h7]
            rfl
          clear i3 i4 i5 i6 i7 i8 i9 i10 h5 h7 h9 Hr
          go_wp2_with fail
          go_meet
          case rel => exact ⟨Hres.out, Below.refl _ _⟩
  case rest =>
    obtain ⟨hrt, hbw⟩ := hcut
    obtain ⟨U, hU⟩ : ∃ U : World, U = wc := ⟨_, rfl⟩
    subst hU
    have Hrt := Lib.hid hrt
    have HW := Lib.hid (H1.out.1.trans (hbw.mono H1.out.1.size))
    have hst := H1.out.2.1.later hbw hDl
    have hBw := H1.out.2.2.2.trans (hbw.mono H1.out.2.2.2.size)
    have Hsa := Lib.hid (Hc.out.2.2.1 U hBw)
    have HBw := Lib.hid hBw
    have Hst := Lib.hid hst
    clear i0 i3 i4 i5 i6 i7 i8 i9 i10 hrt hbw hBw Hr
    obtain ⟨i0, i1, i2, i3, i4, i5, i6, i7, i8, i9, i10, i11, i12, i13⟩ := hst
    simp only [Nat.zero_add] at i0 i1 i2 i3 i4 i5 i6 i7 i8 i9 i10 i11 i12 i13
    clear i0 i1 i2 i11 i12 i13
    go_wp2_with fail
    refine Hsa.out.mono ?_
    rintro e w2 ⟨rfl, hb2⟩
    obtain ⟨z, hz⟩ : ∃ z, z = x.a.evr stillQ := ⟨_, rfl⟩
    have Hz := Lib.hid hz
    rw [← hz]
    have H2 := Lib.hid hb2
    have j7 := (hb2.cell (p := ⟨D, 7, none⟩) (block_lt_of_cell i7)).trans i7
    have j8 := (hb2.cell (p := ⟨D, 8, none⟩) (block_lt_of_cell i8)).trans i8
    have j9 := (hb2.cell (p := ⟨D, 9, none⟩) (block_lt_of_cell i9)).trans i9
    have j10 := (hb2.cell (p := ⟨D, 10, none⟩) (block_lt_of_cell i10)).trans i10
    clear hz hb2 Hsa i3 i4 i5 i6 i7 i8 i9 i10
    cases z
    · have Hres : Hid (r = false) := by show _ = _; rw [Hrt.out]; unfold tailQ; rw [← Hz.out]; rfl
      go_wp2_with fail
      go_ret
      exact ⟨by rw [Hres.out]; try rfl, HW.out.trans (H2.out.mono HW.out.size)⟩
    · have Hsb := Lib.hid (Hc.out.2.2.2.1 w2 (HBw.out.trans (H2.out.mono HBw.out.size)))
      have Hres : Hid (r = x.b.evr stillQ) := by show _ = _; rw [Hrt.out]; unfold tailQ; rw [← Hz.out]; rfl
      go_wp2_with fail
      refine Hsb.out.mono ?_
      rintro e w3 ⟨rfl, hb3⟩
      rw [← Hres.out]
      have H3 := Lib.hid (H2.out.trans (hb3.mono H2.out.size))
      clear hb3 Hsb j7 j8 j9 j10
      go_wp2_with fail
      go_ret
      exact ⟨rfl, HW.out.trans (H3.out.mono HW.out.size)⟩
theorem alone1_visits (w0 : World) (f : Fn) (vp vb : Value) (params : Bool) (bP bF : Nat) (hf : FineFn w0 f vp vb) : Visits w0 (fun _ (_ : Unit) V => AloI f vp vb params bP bF V) (fun _ => False) 36 #[.pointer (some ⟨bP, 0, none⟩), .pointer (some ⟨bF, 0, none⟩)] .nilFunc (aloneQ f params) (fun u _ => u) :=
  ⟨fun args w => enters Try.func36 (by kernel_rfl) (c := _) (by rfl) args w, fun _ _ _ _ _ _ h hb => h.later hb,
    fun g s' x va vb' vd ve vc vk n V hI hB hfx hx _ _ => (alone1_any f vp vb params bP bF x va vb' vd ve vc vk n w0 V hf hI hB hfx hx).mono fun e V' h => ⟨h.1, hI.later h.2, .of_below h.2⟩,
    .inl ⟨rfl, fun _ _ => rfl⟩⟩
set_option maxRecDepth 100000 in
/-- ranges.alone. -/
theorem alone_any (f : Fn) (vp vb : Value) (params : Bool) (w0 W : World) (hf : FineFn w0 f vp vb) (hB : Below w0.heap.size w0 W) :
    Calls Try.prog 25 #[fnV f vp vb, .bool params] W (Gives (.bool (f.alone params)) W) := by
  obtain ⟨ap, cp, rfl, hpc1, hpc2⟩ := hf.params.form
  obtain ⟨ab, cb, rfl, -⟩ := hf.body.form
  obtain ⟨W1, hW1⟩ : ∃ W1, W1 = (W.alloc (.cells #[.string f.name, .slice ap f.params.length cp, .slice ab f.body.length cb] 49)).alloc (.cells #[.bool params] 4) := ⟨_, rfl⟩
  obtain ⟨D, hD⟩ : ∃ D, D = W.heap.size := ⟨_, rfl⟩
  have hb1 : Below W.heap.size W W1 := by rw [hW1]; exact ((Below.refl _ _).alloc (Nat.le_refl _) _).alloc (by (try simp only [World.size_alloc]); (try simp only [size_set]); omega) _
  have q1 : (W.alloc (.cells #[.string f.name, .slice ap f.params.length cp, .slice ab f.body.length cb] 49)).heap.size = D + 1 := by rw [hD]; simp
  have hI1 : AloI f (.slice ap f.params.length cp) (.slice ab f.body.length cb) params (D + 1) D W1 := by
    have k : FnCells (W.alloc (.cells #[.string f.name, .slice ap f.params.length cp, .slice ab f.body.length cb] 49)) D 0 f (.slice ap f.params.length cp) (.slice ab f.body.length cb) := by rw [hD]; constructor <;> exact World.cell?_alloc_at _ _ _ _ rfl
    refine ⟨by rw [hW1]; exact World.cell?_alloc_at _ _ _ _ q1.symm, ?_⟩
    rw [hW1]
    exact k.later ((Below.refl _ _).alloc (Nat.le_refl _) _) (by omega)
  have Hcall := Lib.hid (over_any w0 _ _ _ _ _ _ _ (alone1_visits w0 f _ _ params (D + 1) D hf) (fun b hb => hb.elim) f.body _ hf.body (St.totals f.body) () 0 W1 hI1 (hB.trans (hb1.mono hB.size)) (fun b hb => hb.elim) hf.good.body hf.rng (Nat.le_refl _) (by decide) (by have := hf.good.total; omega))
  have i2 : W1.cell? ⟨D, 2, none⟩ = some (.slice ab f.body.length cb) := by have := hI1.cF.c2; simpa using this
  have Hb1 := Lib.hid hb1
  obtain ⟨np, hnp⟩ : ∃ n, n = f.params.length := ⟨_, rfl⟩
  obtain ⟨nb, hnb⟩ : ∃ n, n = f.body.length := ⟨_, rfl⟩
  rw [← hnb] at Hcall i2
  rw [← hnb, ← hnp] at hW1
  rw [← hnb, ← hnp]
  have Hr : Hid ((St.ovrs (aloneQ f params) (fun u _ => u) 0 f.body ()).2 = f.alone params) := rfl
  rw [Hr.out] at Hcall
  have HW1 := Lib.hid (And.intro hW1 hD)
  unfold visV at Hcall
  unfold fnV
  clear hf hB hW1 hD hb1 q1 hI1 hnp hnb hpc1
  go_enter Try.func25, Try.ntmps25
  go_upto_region 1 with (fail)
  rw [← HW1.out.1, ← HW1.out.2]
  go_wp2_with fail
  refine Hcall.out.mono ?_
  rintro e w2 ⟨rfl, -, hO2⟩
  have H2 := Lib.hid (Hb1.out.trans (hO2.below (B := W.heap.size) Hb1.out.size (fun b hb => hb.elim)))
  clear hO2 i2
  go_wp2_with fail
  go_ret
  exact ⟨rfl, H2.out⟩
end Go.Proofs.Ytgobcldecokppaa

/- ranges.Straight: the plain spec. -/
namespace Go.Proofs.Ytgobcldecokppaa
open Go.RowKit Go.Maps

def Pg.aloneAt (p : Pg) (params : Bool) (i : Int) : Bool := match p.funcs[i.toNat]? with
  | some f => f.alone params
  | none => true
/-- Does function i go straight on, with all that it calls (m steps deep)? -/
def Pg.strF (p : Pg) (params : Bool) : Nat → Int → Bool
  | 0, _ => true
  | m + 1, i => p.aloneAt params i && (p.ncalls i).all fun k => Pg.strF p params m k
def Pg.str (p : Pg) (params : Bool) (i : Int) : Bool := p.strF params (i.toNat + 1) i
theorem ncalls_lt {p : Pg} {i k : Int} (h : k ∈ p.ncalls i) : 0 ≤ k ∧ k < i := by
  unfold Pg.ncalls at h
  split at h
  · cases h
  rename_i h0
  split at h
  · cases h
  obtain ⟨j, s, rfl, hj, _⟩ := (callsN_mem _ _ _).1 h
  have := (List.getElem?_eq_some_iff.1 hj).1
  unfold gAt at this
  simp at this
  omega
theorem Pg.strF_fuel (p : Pg) (params : Bool) : ∀ (m m' : Nat) (i : Int), i.toNat < m → i.toNat < m' → p.strF params m i = p.strF params m' i := by
  intro m
  induction m with
  | zero => intro m' i h; omega
  | succ m ih =>
    intro m' i h h'
    cases m' with
    | zero => omega
    | succ m' =>
      simp only [Pg.strF]
      congr 1
      rw [Bool.eq_iff_iff, List.all_eq_true, List.all_eq_true]
      constructor
      · intro a k hk
        have := ncalls_lt hk
        rw [← ih m' k (by omega) (by omega)]; exact a k hk
      · intro a k hk
        have := ncalls_lt hk
        rw [ih m' k (by omega) (by omega)]; exact a k hk
theorem Pg.str_iff (p : Pg) (params : Bool) (i : Int) : p.str params i = true ↔ p.aloneAt params i = true ∧ ∀ k ∈ p.ncalls i, p.str params k = true := by
  unfold Pg.str
  rw [Pg.strF, Bool.and_eq_true, List.all_eq_true]
  constructor
  · rintro ⟨a, b⟩
    refine ⟨a, fun k hk => ?_⟩
    have := ncalls_lt hk
    rw [Pg.strF_fuel p params (k.toNat + 1) i.toNat k (by omega) (by omega)]
    exact b k hk
  · rintro ⟨a, b⟩
    refine ⟨a, fun k hk => ?_⟩
    have := ncalls_lt hk
    rw [Pg.strF_fuel p params i.toNat (k.toNat + 1) k (by omega) (by omega)]
    exact b k hk
/-- ranges.Straight. -/
def Pg.straight (p : Pg) (fn : Int) (params : Bool) : Bool := decide (p.rfault.1 = 0) && (decide (0 ≤ fn ∧ fn < (p.funcs.length : Int)) && p.str params fn)
/-- The way down: all that are asked from i on downwards go straight on. -/
def StrInv (p : Pg) (params : Bool) (fn i : Int) (C : List Int) : Prop := (∀ z ∈ C, 0 ≤ z ∧ z ≤ fn) ∧ (p.str params fn = true ↔ ∀ j ∈ C, j ≤ i → p.str params j = true)
theorem StrInv.start (p : Pg) (params : Bool) {fn : Int} (h : 0 ≤ fn) : StrInv p params fn fn [fn] := by
  refine ⟨fun z hz => ?_, ?_⟩
  · obtain rfl : z = fn := by simpa using hz
    omega
  · simp
theorem StrInv.skip {p : Pg} {params : Bool} {fn i : Int} {C : List Int} (h : StrInv p params fn i C) (hi : i ∉ C) : StrInv p params fn (i - 1) C := by
  refine ⟨h.1, h.2.trans ⟨fun a j hj hl => a j hj (by omega), fun a j hj hl => ?_⟩⟩
  by_cases e : j = i
  · subst e; exact absurd hj hi
  · exact a j hj (by omega)
theorem StrInv.take {p : Pg} {params : Bool} {fn i : Int} {C C' : List Int} (h : StrInv p params fn i C) (hi : i ∈ C) (ha : p.aloneAt params i = true) (hC : ∀ z, z ∈ C' ↔ z ∈ C ∨ z ∈ p.ncalls i) : StrInv p params fn (i - 1) C' := by
  have hin := h.1 i hi
  refine ⟨fun z hz => ?_, h.2.trans ⟨fun a j hj hl => ?_, fun a j hj hl => ?_⟩⟩
  · rcases (hC z).1 hz with hz | hz
    · exact h.1 z hz
    · have := ncalls_lt hz; omega
  · rcases (hC j).1 hj with hj | hj
    · exact a j hj (by omega)
    · exact ((Pg.str_iff p params i).1 (a i hi (Int.le_refl _))).2 j hj
  · by_cases e : j = i
    · subst e
      exact (Pg.str_iff p params j).2 ⟨ha, fun k hk => a k ((hC k).2 (.inr hk)) (by have := ncalls_lt hk; omega)⟩
    · exact a j ((hC j).2 (.inl hj)) (by omega)
theorem StrInv.bad {p : Pg} {params : Bool} {fn i : Int} {C : List Int} (h : StrInv p params fn i C) (hi : i ∈ C) (ha : p.aloneAt params i = false) : p.str params fn = false := by
  cases hs : p.str params fn with
  | false => rfl
  | true =>
    have := h.2.1 hs i hi (Int.le_refl _)
    rw [Pg.str_iff, ha] at this
    exact absurd this.1 (by decide)
theorem StrInv.done {p : Pg} {params : Bool} {fn i : Int} {C : List Int} (h : StrInv p params fn i C) (hi : i < 0) : p.str params fn = true := h.2.2 fun j hj hl => by have := h.1 j hj; omega
/-- What asks for the bounds alone is right, too, with parameters. -/
theorem ovrs_mono {st st' : Unit → St → Int → Unit × Bool} {lv : Unit → St → Unit} (h : ∀ x n, (st () x n).2 = true → (st' () x n).2 = true) : ∀ (l : List St) (n : Int), (St.ovrs st lv n l ()).2 = true → (St.ovrs st' lv n l ()).2 = true := by
  have key : ∀ (m : Nat), (∀ (l : List St) (n : Int), St.totals l < m → (St.ovrs st lv n l ()).2 = true → (St.ovrs st' lv n l ()).2 = true) := by
    intro m
    induction m with
    | zero => intro l n hl; omega
    | succ m ih =>
      have hgo : ∀ (r : Unit × Bool) (k : Unit → Unit × Bool), (goOn r k).2 = true ↔ r.2 = true ∧ (k ()).2 = true := fun r k => by
        unfold goOn
        split
        · rename_i e; simp [e]
        · rename_i e; simp [e]
      have hcs : ∀ (l : List Cs) (n : Int), Cs.totals l ≤ m → (Cs.ovrs st lv n l ()).2 = true → (Cs.ovrs st' lv n l ()).2 = true := by
        intro l n
        induction l with
        | nil => intro _ _; rfl
        | cons y l ihl =>
          intro hl
          simp only [Cs.totals] at hl
          simp only [Cs.ovrs, hgo, Cs.ovr_eq]
          rintro ⟨a, b⟩
          have := Cs.total_eq y
          exact ⟨ih _ _ (by omega) a, ihl (by omega) b⟩
      intro l n
      induction l with
      | nil => intro _ _; rfl
      | cons x l ihl =>
        intro hl
        simp only [St.totals] at hl
        have ht := St.total_eq x
        simp only [St.ovrs, hgo, St.ovr_eq]
        rintro ⟨⟨a, b, c, d, _⟩, e⟩
        exact ⟨⟨h x n a, ih _ _ (by omega) b, hcs _ _ (by omega) c, ih _ _ (by omega) d, trivial⟩, ihl (by omega) e⟩
  exact fun l n => key _ l n (Nat.lt_succ_self _)
theorem Fn.alone_mono {f : Fn} (h : f.alone false = true) : f.alone true = true := by
  unfold Fn.alone at *
  refine ovrs_mono (fun x n hx => ?_) _ _ h
  unfold aloneQ at *
  simp only [Bool.and_eq_true, Bool.or_eq_true, Bool.false_and] at *
  refine ⟨hx.1, hx.2.1, ?_, hx.2.2.2⟩
  rcases hx.2.2.1 with h1 | ⟨h1, h2⟩
  · exact .inl h1
  · rcases h2 with h2 | h2
    · exact .inr ⟨h1, .inl h2⟩
    · exact absurd h2 (by decide)
theorem Pg.str_mono {p : Pg} : ∀ {m : Nat} {i : Int}, p.strF false m i = true → p.strF true m i = true := by
  intro m
  induction m with
  | zero => intro i _; rfl
  | succ m ih =>
    intro i h
    simp only [Pg.strF, Bool.and_eq_true, List.all_eq_true] at *
    refine ⟨?_, fun k hk => ih (h.2 k hk)⟩
    have h1 := h.1
    unfold Pg.aloneAt at *
    split at h1
    · exact Fn.alone_mono h1
    · rfl
theorem Pg.straight_mono {p : Pg} {fn : Int} (h : p.straight fn false = true) : p.straight fn true = true := by
  unfold Pg.straight Pg.str at *
  simp only [Bool.and_eq_true] at *
  exact ⟨h.1, h.2.1, Pg.str_mono h.2.2⟩
/-- All that a straight function calls is straight. -/
theorem Pg.straight_calls {p : Pg} {fn : Int} {params : Bool} (h : p.straight fn params = true) {k : Int} (hk : k ∈ p.ncalls fn) : p.straight k params = true := by
  unfold Pg.straight at *
  simp only [Bool.and_eq_true, decide_eq_true_eq] at *
  have := ncalls_lt hk
  exact ⟨h.1, ⟨by omega, by omega⟩, ((Pg.str_iff p params fn).1 h.2.2).2 k hk⟩
end Go.Proofs.Ytgobcldecokppaa

namespace Go.Proofs.Ytgobcldecokppaa
open Go.RowKit Go.Maps

theorem rgRun_faultE (x y z : Int) (w : World) : (Instr.field 32 (.agg #[.int .i64 x, .int .i64 y, .int .i64 z]) 0).run Try.prog w = .ok (.int .i64 x) w := by kernel_rfl
theorem u64i : Try.prog.underlying 3 = some (.int .i64) := Try.underlying3
theorem fineFn_of {W : World} {p : Pg} {vw vf : Value} {vp vb : Nat → Value} (h : PgIn W p vw vf vp vb) (hg : p.fault.1 = 0) (hr : p.rng) {i : Nat} {f : Fn} (hf : p.funcs[i]? = some f) : FineFn W f (vp i) (vb i) :=
  ⟨h.funcs.params i f hf, h.funcs.body i f hf, (Pg.good hg).2 i f hf, Pg.rng_at hr hf⟩
theorem Pg.fault_of_rfault {p : Pg} (h : p.rfault.1 = 0) : p.fault.1 = 0 ∧ p.nfault.1 = 0 := by
  have h1 : p.nfault.1 = 0 := by
    by_cases e : p.nfault.1 = 0
    · exact e
    · unfold Pg.rfault at h; rw [if_pos e] at h; exact absurd h e
  refine ⟨?_, h1⟩
  by_cases e : p.fault.1 = 0
  · exact e
  · rw [Pg.nfault_bad e] at h1; exact absurd h1 e
/-- The numbers asked for: how often each. -/
structure AskedAt (w : World) (b : Nat) (C : List Int) (m : Int) : Prop where
  ex : ∃ F, IMap 3 w b C F ∧ (∀ y, y ∈ C → 1 ≤ F y ∧ F y ≤ m) ∧ ∀ y, y ∉ C → F y = 0
  few : (C.length : Int) ≤ m
theorem AskedAt.lt {w : World} {b : Nat} {C : List Int} {m : Int} (h : AskedAt w b C m) : b < w.heap.size := by obtain ⟨⟨F, h1, _⟩, _⟩ := h; exact h1.lt
theorem AskedAt.later {w w' : World} {b B : Nat} {C : List Int} {m : Int} (h : AskedAt w b C m) (hb : Below B w w') (hB : b < B) : AskedAt w' b C m := by
  obtain ⟨⟨F, h1, h2⟩, h3⟩ := h
  exact ⟨⟨F, h1.later hb hB, h2⟩, h3⟩
theorem AskedAt.mono {w : World} {b : Nat} {C : List Int} {m m' : Int} (h : AskedAt w b C m) (hm : m ≤ m') : AskedAt w b C m' := by
  obtain ⟨⟨F, h1, h2, h3⟩, h4⟩ := h
  exact ⟨⟨F, h1, fun y hy => by have := h2 y hy; omega, h3⟩, by omega⟩
theorem AskedAt.look {w : World} {b : Nat} {C : List Int} {m : Int} (h : AskedAt w b C m) (y : Int) : ∃ F z, IMap 3 w b C F ∧ F y = z ∧ (y ∈ C → 1 ≤ z ∧ z ≤ m) ∧ (y ∉ C → z = 0) := by
  obtain ⟨⟨F, h1, h2, h3⟩, _⟩ := h
  exact ⟨F, F y, h1, rfl, h2 y, h3 y⟩
theorem AskedAt.put {w' : World} {b : Nat} {C : List Int} {m y z : Int} {F : Int → Int} (hl : (C.length : Int) ≤ m) (h2 : ∀ y, y ∈ C → 1 ≤ F y ∧ F y ≤ m) (h3 : ∀ y, y ∉ C → F y = 0) (hz : F y = z) (h : IMap 3 w' b (insI C y) (fun i => if i = y then z + 1 else F i)) : AskedAt w' b (insI C y) (m + 1) := by
  refine ⟨⟨_, h, fun u hu => ?_, fun u hu => ?_⟩, ?_⟩
  · by_cases e : u = y
    · subst e
      simp only [if_true]
      by_cases hy : u ∈ C
      · have := h2 u hy; omega
      · have := h3 u hy; omega
    · simp only [if_neg e]
      have := h2 u (by rcases (insI_mem _ _ _).1 hu with h | h; exact absurd h e; exact h)
      omega
  · have e : u ≠ y := fun e => hu ((insI_mem _ _ _).2 (.inl e))
    simp only [if_neg e]
    exact h3 u fun h => hu ((insI_mem _ _ _).2 (.inr h))
  · unfold insI
    split
    · omega
    · simp only [List.length_cons]; omega
theorem callsN_len (G l : List ByteArray) : (callsN G l).length ≤ G.length := by
  unfold callsN
  rw [List.length_map]
  refine Nat.le_trans (List.length_filter_le _ _) ?_
  simp
theorem ncalls_len (p : Pg) (i : Int) : (p.ncalls i).length ≤ p.funcs.length := by
  unfold Pg.ncalls
  split
  · exact Nat.zero_le _
  split
  · exact Nat.zero_le _
  · exact Nat.le_trans (callsN_len _ _) (gAt_len _ _)
set_option maxRecDepth 100000 in
set_option maxHeartbeats 8000000 in
/-- ranges.Straight. -/
theorem rgStraight_any (p : Pg) (vw vf : Value) (vp vb : Nat → Value) (fn : Int) (params : Bool) (W : World) (h : PgIn W p vw vf vp vb) (hrg : p.rng) (hfn : in64 fn) :
    Calls Try.prog 10 #[pgV vw vf, .int .i64 fn, .bool params] W (Gives (.bool (p.straight fn params)) W) := by
  obtain ⟨hw, hr, hpp, hbb⟩ := id h
  obtain ⟨aw, cw, rfl, hwc, hwc2⟩ := hw.row.form
  obtain ⟨a, cap, rfl, hncap, hcap⟩ := hr.form
  obtain ⟨n, hn⟩ : ∃ n, n = p.funcs.length := ⟨_, rfl⟩
  obtain ⟨m, hm⟩ : ∃ m, m = p.widen.length := ⟨_, rfl⟩
  have hn62 : n ≤ 9223372036854775807 := by have : maxLen ≤ 9223372036854775807 := by decide
                                            omega
  have Hl := Lib.hid (And.intro hm hn)
  have Hrg := Lib.hid hrg
  have Hrow : Hid (RowOf W (.slice a n cap) p.funcs.length 3 (fun b o i => ∀ x, p.funcs[i]? = some x → FnCells W b o x (vp i) (vb i))) := by rw [hn]; exact hr
  rw [← hn, ← hm] at h
  have HP := Lib.hid h
  rw [← hn, ← hm]
  rw [← hn] at hncap
  have hfn2 : -9223372036854775808 ≤ fn ∧ fn ≤ 9223372036854775807 := hfn
  obtain ⟨W1, hW1⟩ : ∃ W1, W1 = W.alloc (.cells #[.slice aw m cw, .slice a n cap] 26) := ⟨_, rfl⟩
  obtain ⟨B, hB⟩ : ∃ B, B = W.heap.size := ⟨_, rfl⟩
  have hb1 : Below W.heap.size W W1 := by rw [hW1]; exact (Below.refl _ _).alloc (Nat.le_refl _) _
  have c0 : W1.cell? ⟨B, 0, none⟩ = some (.slice aw m cw) := by rw [hW1, hB]; exact World.cell?_alloc_at _ _ _ _ rfl
  have c1 : W1.cell? ⟨B, 1, none⟩ = some (.slice a n cap) := by rw [hW1, hB]; exact World.cell?_alloc_at _ _ _ _ rfl
  have HW1 := Lib.hid (And.intro hW1 hB)
  have H1 := Lib.hid hb1
  have hBW : W.heap.size ≤ B := by omega
  have hBl : B < W1.heap.size := block_lt_of_cell c0
  obtain ⟨r, hrr⟩ : ∃ r, r = p.straight fn params := ⟨_, rfl⟩
  have Hr : Hid (r = (decide (p.rfault.1 = 0) && (decide (0 ≤ fn ∧ fn < (n : Int)) && p.str params fn))) := by show _ = _; rw [hrr, Hl.out.2]; rfl
  rw [← hrr]
  unfold pgV
  clear h hw hr hpp hbb hrg hn hm hW1 hB hb1 hfn hrr
  go_enter Try.func10, Try.ntmps10
  go_upto_region 1 with (fail)
  rw [← HW1.out.1, ← HW1.out.2]
  go_wp2_with fail
  refine (rgCheck_any p (.slice aw m cw) (.slice a n cap) vp vb W1 (HP.out.later H1.out) Hrg.out).mono ?_
  rintro e w2 ⟨rfl, hb2⟩
  obtain ⟨t0, ht0⟩ : ∃ t, t = p.rfault := ⟨_, rfl⟩
  rw [← ht0]
  rw [← ht0] at Hr
  have Ht0 := Lib.hid ht0
  obtain ⟨ea, eb, ec⟩ := t0
  unfold fltV
  have c0' := (hb2.cell (p := ⟨B, 0, none⟩) hBl).trans c0
  have c1' := (hb2.cell (p := ⟨B, 1, none⟩) hBl).trans c1
  have H2 := Lib.hid (H1.out.trans (hb2.mono H1.out.size))
  have hBl2 : B < w2.heap.size := block_lt_of_cell c0'
  have hfe := rgRun_faultE
  dsimp only
  clear c0 c1 hb2 ht0
  by_cases h0 : ea = 0
  · subst h0
    have hpf := Pg.fault_of_rfault (p := p) (by rw [← Ht0.out])
    have hn32 : n ≤ 32 := by rw [Hl.out.2]; exact (Pg.good hpf.1).1
    have Hpf := Lib.hid hpf
    have Hr1 : Hid (r = (decide (0 ≤ fn ∧ fn < (n : Int)) && p.str params fn)) := by show _ = _; rw [Hr.out]; rfl
    clear hpf Hr
    by_cases hf0 : fn < 0
    · have hq : decide (fn < 0) = true := decide_eq_true hf0
      have Hres : Hid (r = false) := by show _ = _; rw [Hr1.out, decide_eq_false (by omega)]; rfl
      --<A
      clear hf0 Hr1
      go_wp2_with fail
      go_ret
      exact ⟨by rw [Hres.out]; try rfl, H2.out⟩
      --A>
    · have hq : decide (fn < 0) = false := decide_eq_false hf0
      by_cases hfl : (n : Int) ≤ fn
      · have hq2 : decide ((n : Int) ≤ fn) = true := decide_eq_true hfl
        have Hres : Hid (r = false) := by show _ = _; rw [Hr1.out, decide_eq_false (by omega)]; rfl
        --<A
        clear hf0 hfl Hr1
        go_wp2_with fail
        go_ret
        exact ⟨by rw [Hres.out]; try rfl, H2.out⟩
        --A>
      · have hq2 : decide ((n : Int) ≤ fn) = false := decide_eq_false hfl
        have Hstr : Hid (r = p.str params fn) := by show _ = _; rw [Hr1.out, decide_eq_true (by omega)]; rfl
        have hfr : 0 ≤ fn ∧ fn < (n : Int) := by omega
        obtain ⟨W3, hW3⟩ : ∃ W3, W3 = w2.alloc (.map #[] 0) := ⟨_, rfl⟩
        obtain ⟨bs, hbs⟩ : ∃ b, b = w2.heap.size := ⟨_, rfl⟩
        have hb3 : Below w2.heap.size w2 W3 := by rw [hW3]; exact (Below.refl _ _).alloc (Nat.le_refl _) _
        have hm3 : IMap 3 W3 bs [] (fun _ => 0) := by rw [hW3, hbs]; exact IMap.made _ w2
        have c0'' := (hb3.cell (p := ⟨B, 0, none⟩) hBl2).trans c0'
        have c1'' := (hb3.cell (p := ⟨B, 1, none⟩) hBl2).trans c1'
        have H3 := Lib.hid (And.intro (H2.out.trans (hb3.mono H2.out.size)) (And.intro hm3 (And.intro c0'' c1'')))
        have HW3 := Lib.hid (And.intro hW3 hbs)
        have hBbs : B < bs := by omega
        have hmm := @run_makeMap Try.prog
        clear hf0 hfl hW3 hbs hb3 hm3 c0'' c1'' Hr1
        go_upto_region 4 with (first
          | (rw [← HW3.out.1, ← HW3.out.2]; refine im_insert u64i (t := 82) Try.underlying82 rfl _ _ _ rfl bs [] _ rfl H3.out.2.1 fn rfl 1 rfl hfn2 (by decide) ?_; intro w5 hm5 hg5; have H5 := Lib.hid (And.intro hm5 hg5); clear hm5 hg5))
        have hO5 := Oth.of_grown H5.out.2
        have hb5 : Below W.heap.size W w5 := H3.out.1.trans (hO5.below H3.out.1.size fun b (e : b = bs) => by omega)
        have hB3 : B < W3.heap.size := block_lt_of_cell H3.out.2.2.1
        have d0 := (hO5.cell (p := ⟨B, 0, none⟩) hB3 (by show B ≠ bs; omega)).trans H3.out.2.2.1
        have d1 := (hO5.cell (p := ⟨B, 1, none⟩) hB3 (by show B ≠ bs; omega)).trans H3.out.2.2.2
        have hA5 : AskedAt w5 bs [fn] 1 := ⟨⟨_, H5.out.1, fun y hy => by
          obtain rfl : y = fn := by simpa [insI] using hy
          simp, fun y hy => by
          have e : y ≠ fn := fun e => hy (by simp [e])
          simp [e]⟩, by simp⟩
        have H6 := Lib.hid (And.intro hb5 (And.intro hA5 (And.intro d0 d1)))
        clear hO5 hb5 d0 d1 hA5 c0' c1'
        go_wp2_with fail
        go_loopg [8] ((fn + 1).toNat) (fun g iv wx => ∃ (i : Int) (C : List Int), g = (i + 1).toNat ∧ iv = .int .i64 i ∧ -1 ≤ i ∧ i ≤ fn ∧ StrInv p params fn i C ∧ AskedAt wx bs C (33 * (fn - i) + 1) ∧ Below W.heap.size W wx ∧ wx.cell? ⟨B, 0, none⟩ = some (.slice aw m cw) ∧ wx.cell? ⟨B, 1, none⟩ = some (.slice a n cap))
        case atStart => exact ⟨fn, [fn], rfl, rfl, by omega, Int.le_refl _, StrInv.start p params hfr.1, H6.out.2.1.mono (by omega), H6.out.1, H6.out.2.2.1, H6.out.2.2.2⟩
        case round =>
          obtain ⟨i, C, hg, rfl, hi0, hi1, hS, hA, hbw, d0, d1⟩ := hrel
          have HK := Lib.hid (And.intro hS (And.intro hA hbw))
          have Hg := Lib.hid hg
          clear hS hg
          by_cases hin : 0 ≤ i
          · obtain ⟨k, rfl⟩ := Int.eq_ofNat_of_zero_le hin
            obtain ⟨F, z, hm, hz, hz1, hz2⟩ := hA.look (k : Int)
            have Hm := Lib.hid (And.intro hm hz)
            have hkr : -9223372036854775808 ≤ (k : Int) ∧ (k : Int) ≤ 9223372036854775807 := by omega
            have hq1 : decide (0 ≤ (k : Int)) = true := decide_eq_true hin
            clear hm hz
            by_cases hkC : (k : Int) ∈ C
            · have hzr := hz1 hkC
              have hqz : (z == 0) = false := by simp; omega
              have HkC := Lib.hid hkC
              have hkn : k < n := by omega
              obtain ⟨x, hx⟩ : ∃ x, p.funcs[k]? = some x := ⟨_, List.getElem?_eq_getElem (by rw [← Hl.out.2]; exact hkn)⟩
              obtain ⟨b, off, rfl, hb, hP⟩ := Hrow.out.at (i := k) (by rw [← Hl.out.2]; exact hkn)
              have hfc := (hP x hx).later hbw hb
              have hff := fineFn_of HP.out Hpf.out.1 Hrg.out hx
              obtain ⟨ap, cp, hvp, -⟩ := hff.params.form
              obtain ⟨ab, cb, hvb, -⟩ := hff.body.form
              have hcall := alone_any x (vp k) (vb k) params W wr hff hbw
              obtain ⟨np, hnp⟩ : ∃ n, n = x.params.length := ⟨_, rfl⟩
              obtain ⟨nb, hnb⟩ : ∃ n, n = x.body.length := ⟨_, rfl⟩
              rw [hvp, hvb, ← hnp, ← hnb] at hfc hcall
              have Hcall := Lib.hid hcall
              unfold fnV at Hcall
              have Hal : Hid (p.aloneAt params (k : Int) = x.alone params) := by
                show _ = _
                unfold Pg.aloneAt
                rw [Int.toNat_natCast, hx]
              obtain ⟨f0, f1, f2⟩ := hfc
              clear hkC hz1 hz2 hzr hb hP hx hff hvp hvb hcall hnp hnb hA hbw hin
              go_upto_region 8 with (at_lookup; refine im_look u64i (t := 82) Try.underlying82 (by kernel_rfl) rfl _ _ rfl bs C F rfl Hm.out.1 (k : Int) rfl hkr z Hm.out.2 ?_)
              go_wp2_with fail
              refine Hcall.out.mono ?_
              rintro e w7 ⟨rfl, hb7⟩
              obtain ⟨u, hu⟩ : ∃ u, u = x.alone params := ⟨_, rfl⟩
              rw [← hu]
              rw [← hu] at Hal
              have hBr : B < wr.heap.size := block_lt_of_cell d0
              have d0' := (hb7.cell (p := ⟨B, 0, none⟩) hBr).trans d0
              have d1' := (hb7.cell (p := ⟨B, 1, none⟩) hBr).trans d1
              have H7 := Lib.hid (And.intro (HK.out.2.2.trans (hb7.mono HK.out.2.2.size)) (HK.out.2.1.later hb7 HK.out.2.1.lt))
              clear hu hb7 f0 f1 f2 d0 d1 Hcall
              cases u
              · have Hres : Hid (r = false) := by show _ = _; rw [Hstr.out]; exact HK.out.1.bad HkC.out Hal.out
                go_wp2_with fail
                go_ret
                exact ⟨by rw [Hres.out]; try rfl, H7.out.1⟩
              · go_wp2_with fail
                refine (ncalls_any p (.slice aw m cw) (.slice (some ⟨b, off, none⟩) n cap) vp vb (k : Int) w7 (HP.out.later H7.out.1)).mono ?_
                rintro e w8 ⟨v8, rfl, ho8, hb8⟩
                obtain ⟨l, hl⟩ : ∃ l, l = p.ncalls (k : Int) := ⟨_, rfl⟩
                rw [← hl] at ho8
                have hll : l.length ≤ n := by rw [hl, Hl.out.2]; exact ncalls_len p _
                obtain ⟨L, hL⟩ : ∃ L, L = l.length := ⟨_, rfl⟩
                have hown8 : ∀ b9 off9 c9 m9 n9 c10, v8 = .slice (some ⟨b9, off9, none⟩) m9 c9 → v8 = .slice none n9 c10 ∨ w7.heap.size ≤ b9 := fun b9 off9 c9 m9 n9 c10 e => by
                  rcases OwnInts.form ho8 with ⟨hv, _⟩ | ⟨g8, c8, hv, hg8⟩
                  · rw [hv] at e; cases e
                  · rw [hv] at e; cases e; exact .inr hg8.1
                have hrow8 := IntsIn.row (SliceIn.of_owns ho8)
                obtain ⟨a8, c8, hv8, hc8, hc8'⟩ := hrow8.form
                subst hv8
                have Hown8 := Lib.hid hown8
                rw [← hL] at hrow8 hc8 hll ⊢
                have Hrow8 := Lib.hid hrow8
                have HL := Lib.hid (And.intro hl hL)
                have hB7 : B < w7.heap.size := block_lt_of_cell d0'
                have e0 := (hb8.cell (p := ⟨B, 0, none⟩) hB7).trans d0'
                have e1 := (hb8.cell (p := ⟨B, 1, none⟩) hB7).trans d1'
                have H8 := Lib.hid (And.intro (H7.out.1.trans (hb8.mono H7.out.1.size)) (And.intro (H7.out.2.later hb8 H7.out.2.lt) (And.intro e0 e1)))
                have hb7s := H7.out.2.lt
                have hb8s := hb8.size
                have hbs7 : bs < w7.heap.size := hb7s
                clear ho8 hl hL hrow8 hown8 hb8 d0' d1' e0 e1
                go_wp2_with fail
                go_loopg [50] L (fun gg jv wx => ∃ (j : Nat) (C' : List Int), gg = L - j ∧ jv = .int .i64 (j : Int) ∧ j ≤ L ∧ (∀ u, u ∈ C' ↔ u ∈ C ∨ u ∈ l.take j) ∧ AskedAt wx bs C' (33 * (fn - (k : Int)) + 1 + (j : Int)) ∧ Oth (· = bs) w8 wx)
                case atStart => exact ⟨0, C, rfl, rfl, Nat.zero_le _, by simp, H8.out.2.1.mono (by omega), Oth.refl _ _⟩
                case round =>
                  obtain ⟨j, C', hg2, rfl, hj, hC', hA', hO'⟩ := hrel
                  have HJ := Lib.hid (And.intro hC' (And.intro hA' hO'))
                  have Hg2 := Lib.hid hg2
                  clear hC' hg2
                  by_cases hjL : j < L
                  · obtain ⟨y, hy⟩ : ∃ y, l[j]? = some y := ⟨_, List.getElem?_eq_getElem (by rw [← HL.out.2]; exact hjL)⟩
                    obtain ⟨b9, off9, rfl, hb9, hP9⟩ := Hrow8.out.at (i := j) hjL
                    have hyk := ncalls_lt (p := p) (i := (k : Int)) (k := y) (by rw [← HL.out.1]; exact List.mem_of_getElem? hy)
                    have hb9s : w7.heap.size ≤ b9 := by
                      rcases Hown8.out b9 off9 _ _ 0 0 rfl with e | e
                      · cases e
                      · exact e
                    have hcy := (hO'.cell (p := ⟨b9, off9 + j * 1, none⟩) hb9 (by show b9 ≠ bs; omega)).trans (hP9 y hy)
                    obtain ⟨F', hm', h2', h3'⟩ := hA'.ex
                    obtain ⟨z', hz'⟩ : ∃ z, z = F' y := ⟨_, rfl⟩
                    have hzr' : 0 ≤ z' ∧ z' ≤ 3000 := by
                      rw [hz']
                      by_cases hm : y ∈ C'
                      · have := h2' y hm; omega
                      · rw [h3' y hm]; omega
                    have hfew := hA'.few
                    have hSl : C'.length ≤ 1000000 := by omega
                    have hyr : -9223372036854775808 ≤ y ∧ y ≤ 9223372036854775807 := by omega
                    have Hm' := Lib.hid (And.intro hm' (And.intro h2' (And.intro h3' (And.intro hz' hfew))))
                    have Hy := Lib.hid hy
                    have hbl9 := hO'.size
                    rw [Nat.mul_one] at hcy
                    clear hy hP9 hm' h2' h3' hz' hfew hA' hO' hyk
                    go_wp2_with (first
                      | (at_lookup; refine im_look u64i (t := 82) Try.underlying82 (by kernel_rfl) rfl _ _ rfl bs C' F' rfl Hm'.out.1 y rfl hyr z' Hm'.out.2.2.2.1.symm ?_)
                      | (at_mapUpdate; refine im_put u64i (t := 82) Try.underlying82 rfl _ _ _ rfl bs C' F' rfl Hm'.out.1 y rfl (z' + 1) rfl hyr hSl ?_; intro w5 hm5 hg5; have H9 := Lib.hid (And.intro hm5 hg5); clear hm5 hg5))
                    go_roundg (L - (j + 1))
                    case measure => have := Hg2.out; omega
                    case rel =>
                      refine ⟨j + 1, insI C' y, rfl, by go_num, hjL, fun u => ?_, ?_, HJ.out.2.2.trans (Oth.of_grown H9.out.2)⟩
                      · rw [insI_mem, HJ.out.1, take_next Hy.out, List.mem_append, List.mem_singleton]
                        constructor
                        · rintro (h | h | h)
                          · exact .inr (.inr h)
                          · exact .inl h
                          · exact .inr (.inl h)
                        · rintro (h | h | h)
                          · exact .inr (.inl h)
                          · exact .inr (.inr h)
                          · exact .inl h
                      · exact (AskedAt.put Hm'.out.2.2.2.2 Hm'.out.2.1 Hm'.out.2.2.1 Hm'.out.2.2.2.1.symm H9.out.1).mono (by omega)
                  · obtain rfl : L = j := by omega
                    have htk : l.take L = p.ncalls (k : Int) := by rw [← HL.out.1]; exact List.take_of_length_le (by rw [← HL.out.2]; exact Nat.le_refl _)
                    have hmem := HJ.out.1
                    rw [htk] at hmem
                    have hbo : Below W.heap.size W wr := H8.out.1.trans (hO'.below H8.out.1.size fun b (e : b = bs) => by omega)
                    have hB8 : B < w8.heap.size := block_lt_of_cell H8.out.2.2.1
                    have g0 := (hO'.cell (p := ⟨B, 0, none⟩) hB8 (by show B ≠ bs; omega)).trans H8.out.2.2.1
                    have g1 := (hO'.cell (p := ⟨B, 1, none⟩) hB8 (by show B ≠ bs; omega)).trans H8.out.2.2.2
                    have HE := Lib.hid (And.intro hmem (And.intro hbo (And.intro g0 g1)))
                    clear htk hmem hbo g0 g1 hA' hO' hjL
                    go_wp2_with fail
                    go_roundg (((k : Int) - 1 + 1).toNat)
                    case measure => have := Hg.out; omega
                    case rel => exact ⟨(k : Int) - 1, C', rfl, by go_num, by omega, by omega, HK.out.1.take HkC.out Hal.out HE.out.1, HJ.out.2.1.mono (by omega), HE.out.2.1, HE.out.2.2.1, HE.out.2.2.2⟩
            · have hz0 : z = 0 := hz2 hkC
              subst hz0
              have HkC := Lib.hid hkC
              clear hkC hz1 hz2 hA hbw hin
              go_wp2_with (at_lookup; refine im_look u64i (t := 82) Try.underlying82 (by kernel_rfl) rfl _ _ rfl bs C F rfl Hm.out.1 (k : Int) rfl hkr 0 Hm.out.2 ?_)
              go_roundg (((k : Int) - 1 + 1).toNat)
              case measure => have := Hg.out; omega
              case rel => exact ⟨(k : Int) - 1, C, rfl, by go_num, by omega, by omega, HK.out.1.skip HkC.out, HK.out.2.1.mono (by omega), HK.out.2.2, d0, d1⟩
          · have hq1 : decide (0 ≤ i) = false := decide_eq_false hin
            have Hres : Hid (r = true) := by show _ = _; rw [Hstr.out]; exact HK.out.1.done (by omega)
            clear hA hbw
            go_wp2_with fail
            go_ret
            exact ⟨by rw [Hres.out]; try rfl, HK.out.2.2⟩
  · have hq : (ea != 0) = true := by simp [h0]
    have Hres : Hid (r = false) := by show _ = _; rw [Hr.out, decide_eq_false h0]; rfl
    --<A
    clear h0 Hr
    go_wp2_with fail
    go_ret
    exact ⟨by rw [Hres.out]; try rfl, H2.out⟩
    --A>
end Go.Proofs.Ytgobcldecokppaa
