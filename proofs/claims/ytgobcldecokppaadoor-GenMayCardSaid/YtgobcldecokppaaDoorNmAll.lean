/- names: all looks at all functions, and hands on what each of them calls. -/
import Derived.Test.YtgobcldecokppaaDoorNmFlt
namespace Go.Proofs.YtgobcldecokppaaDoor
open Go.RowKit Go.Maps

/-- What the function that is told does: it writes to blocks of S alone, and I tells where it stands. -/
structure Told (p : Pg) (W : World) (k : FuncId) (caps : Array Value) (S : Nat → Prop) (I : Nat → Nat → World → Prop) : Prop where
  enter : ∀ args w, (callFunc k args).run Tryd.prog w = .ok (.enter k args) w
  start : ∀ bf V, Below W.heap.size W V → W.heap.size ≤ bf → I bf 0 V
  stab : ∀ bf b i V V', W.heap.size ≤ b → b ≤ bf → I bf i V → Oth (· = b) V V' → I bf i V'
  call : ∀ bf (i : Nat) f V bc C, p.funcs[i]? = some f → I bf i V → W.heap.size ≤ bf → bf < V.heap.size → CMap V bc C → W.heap.size ≤ bc → (∀ z ∈ C, 0 ≤ z ∧ z < 32) → (∀ z, z ∈ C ↔ idxs (gAt p.funcs i) (St.ncallss f.body) z) →
    Calls Tryd.prog k (#[.int .i64 (i : Int), .map (some bc)] ++ caps) V (fun e V' => e = .returned (.tuple #[]) ∧ Oth S V V' ∧ I bf (i + 1) V')
/-- The walker that is made for a function. -/
theorem WAt.made {w : World} {bf : Nat} {G : List ByteArray} (hf : ∃ S F, SMap w bf S F ∧ (∀ x, x ∈ S ↔ x ∈ G) ∧ ∀ (i : Nat) x, G[i]? = some x → F x = (i : Int)) (hG : G.length ≤ 32) (w' : World)
    (h : w' = ((w.alloc (.map #[] 0)).alloc (.map #[] 0)).alloc (.cells #[.map (some w.heap.size), .slice none 0 0, .map (some bf), .map (some (w.heap.size + 1)), .int .i64 0, .int .i64 0] 110)) :
    WAt w' (w.heap.size + 2) w.heap.size bf (w.heap.size + 1) (.slice none 0 0) [] G [] 0 0 := by
  obtain ⟨S, F, s1, s2⟩ := hf
  have q := s1.lt
  obtain ⟨w1, hw1⟩ : ∃ w1, w1 = w.alloc (.map #[] 0) := ⟨_, rfl⟩
  obtain ⟨w2, hw2⟩ : ∃ w2, w2 = w1.alloc (.map #[] 0) := ⟨_, rfl⟩
  rw [← hw1, ← hw2] at h
  have z1 : w1.heap.size = w.heap.size + 1 := by rw [hw1]; simp
  have z2 : w2.heap.size = w.heap.size + 2 := by rw [hw2]; simp; omega
  have b1 : Below w.heap.size w w1 := by rw [hw1]; exact (Below.refl _ _).alloc (Nat.le_refl _) _
  have b2 : Below w1.heap.size w1 w2 := by rw [hw2]; exact (Below.refl _ _).alloc (Nat.le_refl _) _
  have b3 : Below w2.heap.size w2 w' := by rw [h]; exact (Below.refl _ _).alloc (Nat.le_refl _) _
  have m1 : SMap w1 w.heap.size [] (fun _ => 0) := by rw [hw1]; exact SMap.made w
  have m2 : CMap w2 (w.heap.size + 1) [] := by rw [hw2, ← z1]; exact CMap.made w1
  have k : ∀ j v, (#[.map (some w.heap.size), .slice none 0 0, .map (some bf), .map (some (w.heap.size + 1)), .int .i64 0, .int .i64 0] : Array Value)[j]? = some v → w'.cell? ⟨w.heap.size + 2, j, none⟩ = some v := fun j v hj => by rw [h]; exact World.cell?_alloc_at _ _ _ _ (by rw [z2]) |>.trans hj
  have kf : ∀ j, j < 6 → w'.frozen? ⟨w.heap.size + 2, j, none⟩ = false := fun j hj => by rw [h]; exact World.frozen?_alloc_at _ _ _ _ (by rw [z2])
  refine ⟨⟨k 0 _ rfl, k 1 _ rfl, kf 1 (by decide), ⟨[], ?_, by simp, rfl⟩, ?_, ⟨by simp, by simp⟩, by omega⟩, k 2 _ rfl, k 3 _ rfl, k 4 _ rfl, k 5 _ rfl, kf 4 (by decide), kf 5 (by decide), ⟨S, F, ?_, s2⟩, m2.later b3 m2.lt, ⟨by simp, by simp, hG⟩, by omega⟩
  · have := (m1.later b2 m1.lt).later b3 (by omega)
    exact this
  · exact ⟨by simp [strVs], .inl ⟨rfl, rfl⟩⟩
  · exact ((s1.later b1 q).later b2 (by omega)).later b3 (by omega)
/-- The functions met so far. -/
def FnsAt (w : World) (bf : Nat) (G : List ByteArray) : Prop := ∃ S F, SMap w bf S F ∧ (∀ x, x ∈ S ↔ x ∈ G) ∧ (∀ (i : Nat) x, G[i]? = some x → F x = (i : Int)) ∧ S.length ≤ G.length
theorem FnsAt.later {w w' : World} {bf B : Nat} {G : List ByteArray} (h : FnsAt w bf G) (hb : Below B w w') (hB : bf < B) : FnsAt w' bf G := by
  obtain ⟨S, F, s1, s2⟩ := h
  exact ⟨S, F, s1.later hb hB, s2⟩
theorem CkAt.oth {T : Nat → Prop} {w w' : World} {B : Nat} {vw vf : Value} (h : CkAt w B vw vf) (hO : Oth T w w') (h1 : ¬ T B) (h2 : ¬ T (B + 1)) : CkAt w' B vw vf :=
  have q1 := block_lt_of_cell h.c0
  have q2 := block_lt_of_cell h.r0
  ⟨(hO.cell (p := ⟨B, 0, none⟩) q1 h1).trans h.c0, (hO.cell (p := ⟨B, 1, none⟩) q1 h1).trans h.c1, (hO.cell (p := ⟨B + 1, 0, none⟩) q2 h2).trans h.r0, (hO.cell (p := ⟨B + 1, 1, none⟩) q2 h2).trans h.r1, (hO.cell (p := ⟨B + 1, 2, none⟩) q2 h2).trans h.r2,
    (hO.frozen (p := ⟨B + 1, 0, none⟩) q2 h2).trans h.z0, (hO.frozen (p := ⟨B + 1, 1, none⟩) q2 h2).trans h.z1, (hO.frozen (p := ⟨B + 1, 2, none⟩) q2 h2).trans h.z2⟩
set_option maxRecDepth 100000 in
set_option maxHeartbeats 8000000 in
theorem nall_any (p : Pg) (vw vf : Value) (vp vb : Nat → Value) (w0 W : World) (k : FuncId) (caps : Array Value) (S : Nat → Prop) (I : Nat → Nat → World → Prop)
    (h : PgIn w0 p vw vf vp vb) (hB0 : Below w0.heap.size w0 W) (hS : ∀ b, S b → w0.heap.size ≤ b ∧ b < W.heap.size) (hT : Told p W k caps S I) :
    Calls Tryd.prog 25 #[pgV vw vf, .func (.func k) #[] caps] W (fun E W' => E = .returned (fltV p.nfault) ∧ Oth S W W' ∧ (p.nfault.1 = 0 → ∃ bf, W.heap.size ≤ bf ∧ I bf p.funcs.length W')) := by
  have HP := Lib.hid h
  obtain ⟨hw, hr, hpp, hbb⟩ := h
  obtain ⟨aw, cw, rfl, hwc, hwc2⟩ := hw.row.form
  obtain ⟨a, cap, rfl, hncap, hcap⟩ := hr.form
  obtain ⟨n, hn⟩ : ∃ n, n = p.funcs.length := ⟨_, rfl⟩
  obtain ⟨m, hm⟩ : ∃ m, m = p.widen.length := ⟨_, rfl⟩
  have hn62 : n ≤ 9223372036854775807 := by have : maxLen ≤ 9223372036854775807 := by decide
                                            omega
  have Hl := Lib.hid (And.intro hm hn)
  have Hf := Lib.hid (And.intro hpp hbb)
  have HS := Lib.hid hS
  have HT := Lib.hid hT
  have HB0 := Lib.hid hB0
  have Hrow : Hid (RowOf w0 (.slice a n cap) p.funcs.length 3 (fun b o i => ∀ x, p.funcs[i]? = some x → FnCells w0 b o x (vp i) (vb i))) := by rw [hn]; exact hr
  rw [← hn, ← hm] at HP
  rw [← hn, ← hm]
  rw [← hn] at hncap
  obtain ⟨W1, hW1⟩ : ∃ W1, W1 = (W.alloc (.cells #[.slice aw m cw, .slice a n cap] 25)).alloc (.cells #[.int .i64 0, .int .i64 0, .int .i64 0] 32) := ⟨_, rfl⟩
  have hs1 : W1.heap.size = W.heap.size + 2 := by rw [hW1]; simp
  have hb1 : Below W.heap.size W W1 := by rw [hW1]; exact ((Below.refl _ _).alloc (Nat.le_refl _) _).alloc (by (try simp only [World.size_alloc]); (try simp only [size_set]); omega) _
  have hk1 : CkAt W1 W.heap.size (.slice aw m cw) (.slice a n cap) := by
    have q : (W.alloc (.cells #[.slice aw m cw, .slice a n cap] 25)).heap.size = W.heap.size + 1 := by simp
    have k : ∀ j, (((W.alloc (.cells #[.slice aw m cw, .slice a n cap] 25)).alloc (.cells #[.int .i64 0, .int .i64 0, .int .i64 0] 32)).cell? ⟨W.heap.size, j, none⟩) = (W.alloc (.cells #[.slice aw m cw, .slice a n cap] 25)).cell? ⟨W.heap.size, j, none⟩ :=
      fun j => ((Below.refl _ _).alloc (Nat.le_refl _) _).cell (p := ⟨W.heap.size, j, none⟩) (by show W.heap.size < _; omega)
    rw [hW1]
    exact ⟨(k 0).trans (World.cell?_alloc_at _ _ _ _ rfl), (k 1).trans (World.cell?_alloc_at _ _ _ _ rfl), World.cell?_alloc_at _ _ _ _ (by rw [q]), World.cell?_alloc_at _ _ _ _ (by rw [q]), World.cell?_alloc_at _ _ _ _ (by rw [q]),
      World.frozen?_alloc_at _ _ _ _ (by rw [q]), World.frozen?_alloc_at _ _ _ _ (by rw [q]), World.frozen?_alloc_at _ _ _ _ (by rw [q])⟩
  have HW1 := Lib.hid hW1
  obtain ⟨B, hB⟩ : ∃ B, B = W.heap.size := ⟨_, rfl⟩
  have hBW : W.heap.size ≤ B := by omega
  have hBW2 : B ≤ W.heap.size := by omega
  have HB := Lib.hid hB
  have HnS : Hid (∀ b, W.heap.size ≤ b → ¬ S b) := fun b hb hs => by have := (hS b hs).2; omega
  unfold pgV
  rw [← hB] at hk1
  clear hw hr hpp hbb hn hm hW1 hB hS hT hB0
  go_enter Tryd.func25, Tryd.ntmps25
  go_upto_region 1 with (fail)
  rw [← HW1.out, ← HB.out]
  have H1 := Lib.hid (And.intro hb1 (And.intro hk1 hs1))
  clear hb1 hs1
  obtain ⟨c0, c1, r0, r1, r2, z0, z1, z2⟩ := hk1
  go_wp2_with fail
  refine (check_any p (.slice aw m cw) (.slice a n cap) vp vb W1 (PgIn.later HP.out (HB0.out.trans (H1.out.1.mono HB0.out.size)))).mono ?_
  rintro e w2 ⟨rfl, hb2⟩
  have hk2 := H1.out.2.1.later hb2
  have hbb2 := H1.out.1.trans (hb2.mono H1.out.1.size)
  obtain ⟨t0, ht0⟩ : ∃ t, t = p.fault := ⟨_, rfl⟩
  rw [← ht0]
  have Ht0 := Lib.hid ht0
  obtain ⟨ea, eb, ec⟩ := t0
  unfold fltV
  obtain ⟨W3, hW3⟩ : ∃ W3, W3 = w2.alloc (.cells #[.int .i64 ea, .int .i64 eb, .int .i64 ec] 32) := ⟨_, rfl⟩
  obtain ⟨D, hD⟩ : ∃ D, D = w2.heap.size := ⟨_, rfl⟩
  have hs3 : W3.heap.size = D + 1 := by rw [hW3, hD]; simp
  have hb3 : Below w2.heap.size w2 W3 := by rw [hW3]; exact (Below.refl _ _).alloc (Nat.le_refl _) _
  have d0 : W3.cell? ⟨D, 0, none⟩ = some (.int .i64 ea) := by rw [hW3, hD]; exact World.cell?_alloc_at _ _ _ _ rfl
  have d1 : W3.cell? ⟨D, 1, none⟩ = some (.int .i64 eb) := by rw [hW3, hD]; exact World.cell?_alloc_at _ _ _ _ rfl
  have d2 : W3.cell? ⟨D, 2, none⟩ = some (.int .i64 ec) := by rw [hW3, hD]; exact World.cell?_alloc_at _ _ _ _ rfl
  have hK3 := hk2.later hb3
  have hB3 := hbb2.trans (hb3.mono hbb2.size)
  have HW3 := Lib.hid (And.intro hW3 hD)
  have HK3 := Lib.hid (And.intro hK3 hB3)
  have HO3 : Hid (Oth S W W3) := .of_below hB3
  have HB03 : Hid (Below w0.heap.size w0 W3) := HB0.out.trans (hB3.mono HB0.out.size)
  have q3 : D < W3.heap.size := by omega
  have q3b : B + 1 < D := by have := block_lt_of_cell hk2.r0; rw [hD]; exact this
  clear c0 c1 r0 r1 r2 z0 z1 z2 hb2 hk2 hbb2 ht0 hW3 hD hs3 hb3 hB3
  go_upto_region 2 with (fail)
  rw [← HW3.out.1, ← HW3.out.2]
  obtain ⟨c0, c1, r0, r1, r2, z0, z1, z2⟩ := hK3
  have q4 := block_lt_of_cell r0
  by_cases h0 : ea = 0
  · subst h0
    have hgood := Pg.good (p := p) (by rw [← Ht0.out])
    have Hgood := Lib.hid hgood
    have Hnf : Hid (p.nfault = Fn.nfaults p.funcs [] 0) := by show _ = _; unfold Pg.nfault; rw [← Ht0.out]; exact if_neg fun h => h rfl
    have hn32 : n ≤ 32 := by rw [Hl.out.2]; exact hgood.1
    obtain ⟨W5, hW5⟩ : ∃ W5, W5 = W3.alloc (.map #[] 0) := ⟨_, rfl⟩
    obtain ⟨bf, hbf⟩ : ∃ b, b = W3.heap.size := ⟨_, rfl⟩
    have hs5 : W5.heap.size = bf + 1 := by rw [hW5, hbf]; simp
    have hb5 : Below W3.heap.size W3 W5 := by rw [hW5]; exact (Below.refl _ _).alloc (Nat.le_refl _) _
    have hF5 : FnsAt W5 bf (gAt p.funcs 0) := ⟨[], fun _ => 0, by rw [hW5, hbf]; exact SMap.made W3, by simp [gAt], by simp [gAt], by simp⟩
    have hO5 : Oth S W W5 := HO3.out.trans (.of_below hb5)
    have hI5 : I bf 0 W5 := HT.out.start bf W5 (HK3.out.2.trans (hb5.mono HK3.out.2.size)) (by have := HK3.out.2.size; omega)
    have hbW : W.heap.size ≤ bf := by have := HK3.out.2.size; omega
    have hbB : B + 1 < bf := by omega
    have HK5 := Lib.hid (And.intro (HK3.out.1.later hb5) (And.intro hO5 (And.intro hF5 hI5)))
    have HW5 := Lib.hid (And.intro hW5 hbf)
    have hmm := @run_makeMap Tryd.prog
    clear hgood hW5 hbf hs5 hb5 hF5 hO5 hI5
    go_upto_region 5 with (fail)
    rw [← HW5.out.1, ← HW5.out.2]
    clear c0 c1 r0 r1 r2 z0 z1 z2 d0 d1 d2
    obtain ⟨c0, c1, r0, r1, r2, z0, z1, z2⟩ := HK5.out.1
    go_wp2_with fail
    clear c0 c1 r0 r1 r2 z0 z1 z2
    go_loopg [25] n (fun g iv wx => ∃ i : Nat, g = n - i ∧ iv = .int .i64 (i : Int) ∧ i ≤ n ∧ (∀ j y, j < i → p.funcs[j]? = some y → (y.nfault ([] ++ gAt p.funcs j) (0 + j)).1 = 0) ∧ CkAt wx B (.slice aw m cw) (.slice a n cap) ∧ Oth S W wx ∧ FnsAt wx bf (gAt p.funcs i) ∧ I bf i wx)
    case atStart => exact ⟨0, rfl, rfl, Nat.zero_le _, fun j y h => by omega, HK5.out.1, HK5.out.2.1, HK5.out.2.2.1, HK5.out.2.2.2⟩
    case round =>
      obtain ⟨i, hg, rfl, hi, hp, hC, hO, hF, hI⟩ := hrel
      obtain ⟨V0, hV0⟩ : ∃ V : World, V = wr := ⟨_, rfl⟩
      subst hV0
      have HK := Lib.hid (And.intro hp (And.intro hC (And.intro hO (And.intro hF hI))))
      have Hg := Lib.hid hg
      have hB0r : Below w0.heap.size w0 V0 := HB0.out.trans (hO.below HB0.out.size fun b hb => (HS.out b hb).1)
      have HB0r := Lib.hid hB0r
      obtain ⟨c0, c1, r0, r1, r2, z0, z1, z2⟩ := hC
      have q5 := block_lt_of_cell r0
      clear hp hg hO hF hI
      by_cases hin : i < n
      · obtain ⟨x, hx⟩ : ∃ x, p.funcs[i]? = some x := ⟨_, List.getElem?_eq_getElem (by rw [← Hl.out.2]; exact hin)⟩
        obtain ⟨b, off, rfl, hb, hP⟩ := Hrow.out.at (i := i) (by rw [← Hl.out.2]; exact hin)
        have hfc := (hP x hx).later hB0r hb
        have hrow := Hf.out.1 i x hx
        have hsts := Hf.out.2 i x hx
        obtain ⟨ap, cp, hvp, hpc1, hpc2⟩ := hrow.form
        obtain ⟨ab, cb, hvb, -⟩ := hsts.form
        have hlist := nlist_any _ _ _ hsts
        obtain ⟨np, hnp⟩ : ∃ n, n = x.params.length := ⟨_, rfl⟩
        obtain ⟨nb, hnb⟩ : ∃ n, n = x.body.length := ⟨_, rfl⟩
        rw [hvb, ← hnb] at hlist
        rw [hvp, hvb, ← hnp, ← hnb] at hfc
        have Hrp : Hid (RowOf w0 (.slice ap np cp) x.params.length 3 (fun b o k => ∀ y, x.params[k]? = some y → PmAt w0 b o y)) := by rw [hvp, ← hnp] at hrow; rw [← hnp]; exact hrow
        have hxg := Hgood.out.2 i x hx
        have Hxg := Lib.hid hxg
        have hsz2 : x.name.size ≤ maxLen := by have := hxg.name; unfold maxLen; omega
        have hnp8 : np ≤ 8 := by rw [hnp]; exact hxg.few
        have HX := Lib.hid (And.intro hx (And.intro hlist hnp))
        obtain ⟨G, hG⟩ : ∃ G, G = gAt p.funcs i := ⟨_, rfl⟩
        have HG : Hid (G = gAt p.funcs i ∧ G.length = i) := ⟨hG, by rw [hG]; unfold gAt; simp; have := Hl.out.2; omega⟩
        have hF2 := HK.out.2.2.2.1
        rw [← hG] at hF2
        obtain ⟨SF, F, hf1, hf2, hf3, hf4⟩ := hF2
        obtain ⟨W6, hW6⟩ : ∃ W6, W6 = V0.alloc (.cells #[.string x.name, .slice ap np cp, .slice ab nb cb] 40) := ⟨_, rfl⟩
        obtain ⟨D6, hD6⟩ : ∃ D, D = V0.heap.size := ⟨_, rfl⟩
        have hs6 : W6.heap.size = D6 + 1 := by rw [hW6, hD6]; simp
        have hb6 : Below V0.heap.size V0 W6 := by rw [hW6]; exact (Below.refl _ _).alloc (Nat.le_refl _) _
        have hfc6 : FnCells W6 D6 0 x (.slice ap np cp) (.slice ab nb cb) := by rw [hW6, hD6]; constructor <;> exact World.cell?_alloc_at _ _ _ _ rfl
        have hK6 := HK.out.2.1.later hb6
        have hf6 := hf1.later hb6 hf1.lt
        have HK6 := Lib.hid (And.intro hK6 (And.intro (HK.out.2.2.1.trans (.of_below hb6)) (And.intro (HT.out.stab bf bf i V0 W6 hbW (Nat.le_refl _) HK.out.2.2.2.2 (.of_below hb6)) (HB0r.out.trans (hb6.mono HB0r.out.size)))))
        have HF6 := Lib.hid (And.intro hf6 (And.intro hf2 (And.intro hf3 hf4)))
        have Hfc6 := Lib.hid hfc6
        have HW6 := Lib.hid (And.intro hW6 hD6)
        have q6 : D6 < W6.heap.size := by omega
        have q6b : bf < D6 := by have := hf1.lt; omega
        have q6c : W6.heap.size ≤ D6 + 1 := by omega
        obtain ⟨i0, i1, i2⟩ := hfc
        obtain ⟨z, hz⟩ : ∃ z, z = F x.name := ⟨_, rfl⟩
        have Hz := Lib.hid hz
        clear hP hx hrow hsts hlist hvp hvb hnp hnb hxg hG hf1 hf2 hf3 hf4 hW6 hD6 hs6 hb6 hfc6 hK6 hf6 hB0r hz
        go_upto_region 8 with (fail)
        rw [← HW6.out.1, ← HW6.out.2]
        clear i0 i1 i2 c0 c1 r0 r1 r2 z0 z1 z2
        obtain ⟨c0, c1, r0, r1, r2, z0, z1, z2⟩ := HK6.out.1
        obtain ⟨i0, i1, i2⟩ := Hfc6.out
        simp only [Nat.zero_add] at i1 i2
        have q7 : B + 1 < W6.heap.size := block_lt_of_cell r0
        by_cases hin2 : x.name ∈ G
        --<A
        · have hrr : Hid (decide (x.name ∈ SF) = true) := decide_eq_true ((HF6.out.2.1 _).2 hin2)
          have Hres : Hid (p.nfault = (9, (i : Int), 0)) := by
            show _ = _
            have h : x.nfault ([] ++ gAt p.funcs i) (0 + i) = (9, (i : Int), 0) := by unfold Fn.nfault; rw [List.nil_append, ← HG.out.1, if_pos (.inl hin2), Nat.zero_add]
            rw [Hnf.out, Fn.nfaults_hit HX.out.1 HK.out.1 (by rw [h]; show (9 : Int) ≠ 0; decide), h]
          have hrun := sm_run_ok (t := 60) Tryd.underlying60 (by kernel_rfl) HF6.out.1 hsz2 Hz.out.symm hrr.out
          clear hin2
          go_wp2_with (fail)
          obtain ⟨w9, hw9⟩ : ∃ w9, w9 = ((W6.setCell ⟨B + 1, 0, none⟩ (.int .i64 9)).setCell ⟨B + 1, 1, none⟩ (.int .i64 (i : Int))).setCell ⟨B + 1, 2, none⟩ (.int .i64 0) := ⟨_, rfl⟩
          rw [← hw9]
          obtain ⟨e0, e1, e2, hO9⟩ := HK6.out.1.answer (9, (i : Int), 0) w9 hw9
          have HO9 := Lib.hid hO9
          clear hw9 hO9 c0 c1 r0 r1 r2 z0 z1 z2
          dsimp only at e0 e1 e2
          refine bodyPost_ret (by simp [results, Tryd.results25, go_sem, e0, e1, e2]; try rfl) rfl ?_
          exact ⟨by rw [Hres.out]; rfl, HK6.out.2.1.new HO9.out fun b hb e => absurd hb (by omega), fun h => by rw [Hres.out] at h; cases h⟩
        --A>
        · have hrr : Hid (decide (x.name ∈ SF) = false) := decide_eq_false fun h => hin2 ((HF6.out.2.1 _).1 h)
          have Hnot : Hid (x.name ∉ G) := hin2
          have hrun := sm_run_ok (t := 60) Tryd.underlying60 (by kernel_rfl) HF6.out.1 hsz2 Hz.out.symm hrr.out
          clear hin2
          go_upto_region 11 with (fail)
          obtain ⟨w7, hw7⟩ : ∃ w7, w7 = ((W6.alloc (.map #[] 0)).alloc (.map #[] 0)).alloc (.cells #[.map (some W6.heap.size), .slice none 0 0, .map (some bf), .map (some (W6.heap.size + 1)), .int .i64 0, .int .i64 0] 110) := ⟨_, rfl⟩
          obtain ⟨bk, hbk⟩ : ∃ b, b = W6.heap.size := ⟨_, rfl⟩
          have hk7 := WAt.made ⟨SF, F, HF6.out.1, HF6.out.2.1, HF6.out.2.2.1⟩ (by rw [HG.out.2]; omega) w7 hw7
          have hb7 : Below W6.heap.size W6 w7 := by rw [hw7]; exact (((Below.refl _ _).alloc (Nat.le_refl _) _).alloc (by simp) _).alloc (by simp; omega) _
          rw [← hbk] at hk7
          have hbk2 : W6.heap.size ≤ bk := by omega
          have hbk3 : bk + 2 < w7.heap.size := block_lt_of_cell hk7.c2
          have H7 := Lib.hid (And.intro hk7 hb7)
          have HW7 := Lib.hid (And.intro hw7 hbk)
          have Hfc7 := Lib.hid (Hfc6.out.later hb7 q6)
          have HK7 := Lib.hid (HK6.out.1.later hb7)
          clear hk7 hb7 hw7 hbk hrun
          go_upto_region 12 with (fail)
          rw [← HW7.out.1, ← HW7.out.2]
          clear c0 c1 r0 r1 r2 z0 z1 z2 i0 i1 i2
          obtain ⟨i0, i1, i2⟩ := Hfc7.out
          simp only [Nat.zero_add] at i1 i2
          go_wp2_with fail
          obtain ⟨c, hc⟩ : ∃ c, c = bk + 2 := ⟨_, rfl⟩
          obtain ⟨bc, hbc⟩ : ∃ b, b = bk + 1 := ⟨_, rfl⟩
          have hcb1 : bk < bc := by omega
          have hcb2 : bc < c := by omega
          have hcb3 : c < w7.heap.size := by omega
          have H7b : Hid (WAt w7 c bk bf bc (.slice none 0 0) [] G [] 0 0 ∧ Below W6.heap.size W6 w7) := by rw [hc, hbc]; exact H7.out
          have Hc := Lib.hid (And.intro hc hbc)
          try rw [← hc]
          clear hc hbc H7
          go_loopg [49] np (fun g jv wx => ∃ (j : Nat) (ovj : Value), g = np - j ∧ jv = .int .i64 (j : Int) ∧ j ≤ np ∧ twiceB (x.params.take j) [] = false ∧ WAt wx c bk bf bc ovj (parK (x.params.take j)) G [] 0 0 ∧ WStep w7 wx c bk bc (.slice none 0 0) ovj)
          case atStart => exact ⟨0, .slice none 0 0, rfl, rfl, Nat.zero_le _, by simp [twiceB], by simpa [parK] using H7b.out.1, .refl _ _ _ _ _⟩
          case round =>
            obtain ⟨j, ovj, hg2, rfl, hj, htw, hkj, hsj⟩ := hrel
            have Hg2 := Lib.hid hg2
            have hwt : ∀ k, WT c bk bc (.slice none 0 0) k → W6.heap.size ≤ k := by
              rintro k (e | e | e | e)
              · omega
              · omega
              · omega
              · cases e
            have hbj : Below W6.heap.size W6 wr := H7b.out.2.trans (hsj.oth.below (Nat.le_trans hbk2 (by omega)) hwt)
            have Hwt := Lib.hid hwt
            have hfcj := Hfc6.out.later hbj q6
            have Hj := Lib.hid (And.intro htw (And.intro hkj (And.intro hsj hbj)))
            have Hfcj := Lib.hid hfcj
            have qj := hbj.size
            obtain ⟨i0, i1, i2⟩ := hfcj
            simp only [Nat.zero_add] at i1 i2
            clear hg2 htw hkj hsj hbj hwt
            by_cases hjn : j < np
            · obtain ⟨y, hy⟩ : ∃ y, x.params[j]? = some y := ⟨_, List.getElem?_eq_getElem (by rw [← HX.out.2.2]; exact hjn)⟩
              obtain ⟨by_, oy, rfl, hby, hPy⟩ := Hrp.out.at (i := j) (by rw [← HX.out.2.2]; exact hjn)
              have hpm := (hPy y hy).later (HK6.out.2.2.2.trans (Hj.out.2.2.2.mono HK6.out.2.2.2.size)) hby
              have hysz : y.name.size ≤ 16 := Hxg.out.params y (List.mem_of_getElem? hy)
              obtain ⟨Y1, hY1⟩ : ∃ Y1, Y1 = wr.alloc (.cells #[.string y.name, .int .i64 y.lo, .int .i64 y.hi] 49) := ⟨_, rfl⟩
              have hbY : Below wr.heap.size wr Y1 := by rw [hY1]; exact (Below.refl _ _).alloc (Nat.le_refl _) _
              have hpY : PmAt Y1 wr.heap.size 0 y := by rw [hY1]; constructor <;> exact World.cell?_alloc_at _ _ _ _ rfl
              have hkY := Hj.out.2.1.later1 hbY
              have hsY : WStep w7 Y1 c bk bc (.slice none 0 0) ovj := Hj.out.2.2.1.trans (.of_below hbY)
              obtain ⟨Yd, hYd⟩ : ∃ w, w = Y1.drew := ⟨_, rfl⟩
              have hd : Below Y1.heap.size Y1 Yd := by rw [hYd]; exact (Below.refl _ _).drew
              have HYd := Lib.hid hYd
              have hkd := hkY.later1 hd
              have hsd := hsY.trans (.of_below hd)
              have hpl : (parK (x.params.take j)).length ≤ 8 := by simp [parK]; omega
              have Had := Lib.hid (add_any c bk ovj (parK (x.params.take j)) y.name 1 Yd hkd.sc hysz (by decide) (by omega))
              have HY := Lib.hid (And.intro hkd (And.intro hsd hy))
              have HbY : Hid (Below W6.heap.size W6 Yd) := Hj.out.2.2.2.trans ((hbY.trans (hd.mono hbY.size)).mono qj)
              have HpY := Lib.hid hpY
              have HY1 := Lib.hid hY1
              obtain ⟨k0, k1, k2⟩ := hpm
              clear hy hPy hY1 hbY hpY hkY hsY hd hkd hsd i0 i1 i2 hYd
              go_upto_region 15 with (fail)
              rw [← HY1.out]
              obtain ⟨l0, l1, l2⟩ := HpY.out
              clear k0 k1 k2 l1 l2
              go_still_tail 5, (by kernel_rfl)
              change wpList _ _ _ _ _ Y1.drew
              rw [← HYd.out]
              go_wp2_with fail
              refine Had.out.mono ?_
              rintro e w8 (⟨hk, rfl, hw⟩ | ⟨hk0, rfl, ov8, hs8, hO8, hN8, hKp8⟩)
              --<C
              · subst hw
                have htw2 : twiceB x.params [] = true := twiceB_stop (j + 1) (by rw [twiceB_next HY.out.2.2 Hj.out.1]; exact decide_eq_true hk)
                have Hres : Hid (p.nfault = (9, (i : Int), 0)) := by
                  show _ = _
                  have h : x.nfault ([] ++ gAt p.funcs i) (0 + i) = (9, (i : Int), 0) := by unfold Fn.nfault; rw [if_pos (.inr htw2), Nat.zero_add]
                  rw [Hnf.out, Fn.nfaults_hit HX.out.1 HK.out.1 (by rw [h]; show (9 : Int) ≠ 0; decide), h]
                have HKY := Lib.hid (HK6.out.1.later HbY.out)
                obtain ⟨c0, c1, r0, r1, r2, z0, z1, z2⟩ := HKY.out
                clear hk Had htw2 l0
                go_wp2_with fail
                obtain ⟨w9, hw9⟩ : ∃ w9, w9 = ((w8.setCell ⟨B + 1, 0, none⟩ (.int .i64 9)).setCell ⟨B + 1, 1, none⟩ (.int .i64 (i : Int))).setCell ⟨B + 1, 2, none⟩ (.int .i64 0) := ⟨_, rfl⟩
                rw [← hw9]
                obtain ⟨e0, e1, e2, hO9⟩ := HKY.out.answer (9, (i : Int), 0) w9 hw9
                have HO9 := Lib.hid hO9
                clear hw9 hO9 c0 c1 r0 r1 r2 z0 z1 z2
                dsimp only at e0 e1 e2
                refine bodyPost_ret (by simp [results, Tryd.results25, go_sem, e0, e1, e2]; try rfl) rfl ?_
                exact ⟨by rw [Hres.out]; rfl, (HK6.out.2.1.trans (.of_below HbY.out)).new HO9.out fun b hb e => absurd hb (by omega), fun h => by rw [Hres.out] at h; cases h⟩
              --C>
              · have H8 := Lib.hid (And.intro hk0 (And.intro (HY.out.1.scope hs8 hO8 hKp8) (HY.out.2.1.trans (.of_scope hO8 hN8))))
                clear hk0 hs8 hO8 hN8 hKp8 Had l0
                go_wp2_with fail
                go_roundg (np - (j + 1))
                case measure => have := Hg2.out; omega
                case rel => exact ⟨j + 1, ov8, rfl, by go_num, by omega, by rw [twiceB_next HY.out.2.2 Hj.out.1]; exact decide_eq_false (fun h => h H8.out.1), H8.out.2.1.to (parK_take HY.out.2.2).symm rfl rfl, H8.out.2.2⟩
            · obtain rfl : np = j := by omega
              have htk : x.params.take np = x.params := List.take_of_length_le (by rw [← HX.out.2.2]; exact Nat.le_refl _)
              have hkj := Hj.out.2.1
              have htw := Hj.out.1
              rw [htk] at hkj htw
              have hpl : (parK x.params).length ≤ 8 := by have := Hxg.out.few; simp [parK]; omega
              have hB0j := HK6.out.2.2.2.trans (Hj.out.2.2.2.mono HK6.out.2.2.2.size)
              have Hcall := Lib.hid (HX.out.2.1 Hxg.out.body wr c bk bf bc ovj (parK x.params) G [] 0 0 hB0j (by have := HB0.out.size; omega) hkj (by omega) (by have := Hxg.out.total; omega) (by omega) (by have := Hxg.out.total; omega) (by have := Hxg.out.total; omega))
              have Htw := Lib.hid htw
              clear hjn htk hkj htw hpl hB0j
              go_wp2_with fail
              refine Hcall.out.mono ?_
              rintro e w8 ⟨rfl, ov8, D8, C8, hK8, hs8, hD8, hC8⟩
              have hb8 : Below W6.heap.size W6 w8 := H7b.out.2.trans ((Hj.out.2.2.1.trans hs8).oth.below (Nat.le_trans hbk2 (by omega)) Hwt.out)
              obtain ⟨r, hr⟩ : ∃ r, r = St.nchks (parK x.params) G 0 x.body := ⟨_, rfl⟩
              rw [← hr] at hK8 hC8
              rw [← hr]
              have hat : x.nfault ([] ++ gAt p.funcs i) (0 + i) = if r.2 ≠ 0 then (r.2, (i : Int), (r.1 : Int)) else (0, 0, 0) := by
                unfold Fn.nfault
                rw [List.nil_append, ← HG.out.1, if_neg (by rintro (h | h); exact Hnot.out h; rw [Htw.out] at h; cases h), ← hr, Nat.zero_add]
              have Hat := Lib.hid hat
              have H8 := Lib.hid (And.intro hK8 (And.intro hb8 hC8))
              have HK8 := Lib.hid (HK6.out.1.later hb8)
              have c4 := hK8.c4
              have c3 := hK8.c3
              have q8 := hb8.size
              have hfc8 := Hfc6.out.later hb8 q6
              have Hfc8 := Lib.hid hfc8
              obtain ⟨ea, hea⟩ : ∃ e, e = (r.1 : Int) := ⟨_, rfl⟩
              rw [← hea, Int.zero_add] at c4
              have Hea := Lib.hid hea
              obtain ⟨ee, hee⟩ : ∃ e, e = r.2 := ⟨_, rfl⟩
              have Hee := Lib.hid hee
              rw [← hee]
              clear hr hat hK8 hs8 hD8 hC8 hb8 i0 i1 i2 hfc8 hea hee Hcall
              by_cases hr0 : ee = 0
              · subst hr0
                have hC8 : CMap w8 bc C8 := H8.out.1.calls
                obtain ⟨hz1, hz2⟩ := H8.out.2.2 Hee.out.symm
                have Hcall := Lib.hid (HT.out.call bf i x w8 bc C8 HX.out.1 (HT.out.stab bf bf i W6 w8 hbW (Nat.le_refl _) HK6.out.2.2.1 (.of_below H8.out.2.1)) hbW (by omega) hC8 (by omega) (fun z hz => by have := H8.out.1.few.1 z hz; rw [HG.out.2] at this; omega) (fun z => by rw [hz2 z, HG.out.1]; simp))
                clear hC8 hz1 hz2
                go_wp2_with fail
                rw [HT.out.enter]
                show Calls _ _ _ _ _
                refine Hcall.out.mono ?_
                rintro e w13 ⟨rfl, hO13, hI13⟩
                have hfc13 : FnCells w13 D6 0 x (.slice ap np cp) (.slice ab nb cb) := by
                  have kk := fun j => hO13.cell (p := ⟨D6, j, none⟩) (by show D6 < _; omega) (HnS.out D6 (by omega))
                  exact ⟨(kk _).trans Hfc8.out.c0, (kk _).trans Hfc8.out.c1, (kk _).trans Hfc8.out.c2⟩
                have hf13 : SMap w13 bf SF F := (HF6.out.1.later H8.out.2.1 (by omega)).oth hO13 (HnS.out bf hbW)
                have H13 := Lib.hid (And.intro (HK8.out.oth hO13 (HnS.out B hBW) (HnS.out (B + 1) (by omega))) (And.intro ((HK6.out.2.1.trans (.of_below H8.out.2.1)).trans hO13) (And.intro hI13 hf13)))
                obtain ⟨i0, i1, i2⟩ := hfc13
                have hSF : SF.length ≤ 1000000 := by have h1 := HF6.out.2.2.2; rw [HG.out.2] at h1; omega
                clear hO13 hI13 hf13 i1 i2 c3 c4 Hcall
                go_wp2_with (at_mapUpdate; refine sm_put (t := 60) Tryd.underlying60 rfl _ _ _ rfl bf SF F rfl H13.out.2.2.2 x.name rfl (i : Int) rfl hsz2 hSF ?_; intro w14 hm14 hg14; have H14 := Lib.hid (And.intro hm14 hg14); clear hm14 hg14)
                go_roundg (n - (i + 1))
                case measure => have := Hg.out; omega
                case rel =>
                  have hO14 := Oth.of_grown H14.out.2
                  refine ⟨i + 1, rfl, by go_num, hin, fun j y hj hy => ?_, H13.out.1.oth hO14 (by omega) (by omega), H13.out.2.1.new hO14 (fun b hb e => absurd hb (by omega)), ⟨insS SF x.name, _, H14.out.1, fun y => ?_, fun j y hy => ?_, ?_⟩, HT.out.stab bf bf (i + 1) w13 w14 hbW (Nat.le_refl _) H13.out.2.2.1 hO14⟩
                  · by_cases e : j = i
                    · subst e
                      rw [HX.out.1] at hy
                      cases hy
                      rw [Hat.out, ← Hee.out]
                      rfl
                    · exact HK.out.1 j y (by omega) hy
                  · rw [insS_mem, HF6.out.2.1, gAt_next HX.out.1, ← HG.out.1]
                    simp [Or.comm]
                  · rw [gAt_next HX.out.1, ← HG.out.1] at hy
                    by_cases hjl : j < G.length
                    · rw [List.getElem?_append_left hjl] at hy
                      have hne : y ≠ x.name := fun e => Hnot.out (e ▸ List.mem_of_getElem? hy)
                      show (if y = x.name then (i : Int) else F y) = _
                      rw [if_neg hne]
                      exact HF6.out.2.2.1 j y hy
                    · rw [List.getElem?_append_right (by omega)] at hy
                      have hj0 : j - G.length = 0 := by
                        rcases Nat.eq_zero_or_pos (j - G.length) with h | h
                        · exact h
                        · rw [List.getElem?_eq_none (by simp; omega)] at hy; cases hy
                      rw [hj0] at hy
                      simp at hy
                      show (if y = x.name then (i : Int) else F y) = _
                      rw [if_pos hy.symm]
                      have := HG.out.2
                      omega
                  · have h1 := HF6.out.2.2.2
                    rw [gAt_next HX.out.1, ← HG.out.1]
                    unfold insS
                    split
                    · simp; omega
                    · simp; omega
              --<D
              · have hq : (ee != 0) = true := by simp [hr0]
                have Hres : Hid (p.nfault = (ee, (i : Int), ea)) := by
                  show _ = _
                  have h : x.nfault ([] ++ gAt p.funcs i) (0 + i) = (ee, (i : Int), ea) := by rw [Hat.out, ← Hee.out, if_pos hr0, Hea.out]
                  rw [Hnf.out, Fn.nfaults_hit HX.out.1 HK.out.1 (by rw [h]; exact hr0), h]
                have Hne := Lib.hid hr0
                obtain ⟨c0, c1, r0, r1, r2, z0, z1, z2⟩ := HK8.out
                clear hr0
                go_wp2_with fail
                obtain ⟨w9, hw9⟩ : ∃ w9, w9 = ((w8.setCell ⟨B + 1, 0, none⟩ (.int .i64 ee)).setCell ⟨B + 1, 1, none⟩ (.int .i64 (i : Int))).setCell ⟨B + 1, 2, none⟩ (.int .i64 ea) := ⟨_, rfl⟩
                rw [← hw9]
                obtain ⟨e0, e1, e2, hO9⟩ := HK8.out.answer (ee, (i : Int), ea) w9 hw9
                have HO9 := Lib.hid hO9
                clear hw9 hO9 c0 c1 r0 r1 r2 z0 z1 z2
                dsimp only at e0 e1 e2
                refine bodyPost_ret (by simp [results, Tryd.results25, go_sem, e0, e1, e2]; try rfl) rfl ?_
                exact ⟨by rw [Hres.out]; rfl, (HK6.out.2.1.trans (.of_below H8.out.2.1)).new HO9.out fun b hb e => absurd hb (by omega), fun h => absurd (by rw [Hres.out] at h; exact h) Hne.out⟩
              --D>
      · obtain rfl : n = i := by omega
        have Hres : Hid (p.nfault = (0, 0, 0)) := by
          show _ = _
          rw [Hnf.out]
          exact Fn.nfaults_none fun j y hy => HK.out.1 j y (by rw [Hl.out.2]; exact (List.getElem?_eq_some_iff.1 hy).1) hy
        clear hin hB0r
        --<B
        go_wp2_with fail
        obtain ⟨w9, hw9⟩ : ∃ w9, w9 = ((V0.setCell ⟨B + 1, 0, none⟩ (.int .i64 0)).setCell ⟨B + 1, 1, none⟩ (.int .i64 0)).setCell ⟨B + 1, 2, none⟩ (.int .i64 0) := ⟨_, rfl⟩
        rw [← hw9]
        obtain ⟨e0, e1, e2, hO9⟩ := HK.out.2.1.answer (0, 0, 0) w9 hw9
        have HO9 := Lib.hid hO9
        clear hw9 hO9 c0 c1 r0 r1 r2 z0 z1 z2
        dsimp only at e0 e1 e2
        refine bodyPost_ret (by simp [results, Tryd.results25, go_sem, e0, e1, e2]; try rfl) rfl ?_
        exact ⟨by rw [Hres.out]; rfl, HK.out.2.2.1.new HO9.out fun b hb e => absurd hb (by omega), fun _ => ⟨bf, hbW, HT.out.stab bf (B + 1) n V0 w9 (by omega) (by omega) HK.out.2.2.2.2 HO9.out⟩⟩
        --B>
  · have hq : (ea != 0) = true := by simp [h0]
    have Hres : Hid (p.nfault = (ea, eb, ec) ∧ ea ≠ 0) := by
      refine ⟨?_, h0⟩
      unfold Pg.nfault
      rw [← Ht0.out, if_pos h0]
    clear h0
    go_wp2_with fail
    obtain ⟨w9, hw9⟩ : ∃ w9, w9 = ((W3.setCell ⟨B + 1, 0, none⟩ (.int .i64 ea)).setCell ⟨B + 1, 1, none⟩ (.int .i64 eb)).setCell ⟨B + 1, 2, none⟩ (.int .i64 ec) := ⟨_, rfl⟩
    rw [← hw9]
    obtain ⟨e0, e1, e2, hO9⟩ := HK3.out.1.answer (ea, eb, ec) w9 hw9
    have HO9 := Lib.hid hO9
    clear hw9 hO9 c0 c1 r0 r1 r2 z0 z1 z2 d0 d1 d2
    dsimp only at e0 e1 e2
    refine bodyPost_ret (by simp [results, Tryd.results25, go_sem, e0, e1, e2]; try rfl) rfl ?_
    exact ⟨by rw [Hres.out.1]; rfl, HO3.out.new HO9.out fun b hb e => absurd hb (by omega), fun h => absurd (by rw [Hres.out.1] at h; exact h) Hres.out.2⟩
end Go.Proofs.YtgobcldecokppaaDoor
