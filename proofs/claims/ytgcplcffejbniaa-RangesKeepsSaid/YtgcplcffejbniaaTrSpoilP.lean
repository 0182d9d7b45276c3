/- R2.Spoil: a copy is written over; nothing else is. -/
import Derived.Test.YtgcplcffejbniaaTrBig
/- roomE, roomS, Room: the room behind a copy's lists reads as Copy left it. -/
namespace Go.Proofs.Ytgcplcffejbniaa
open Go.RowKit

/-- The spare row behind a list of one's own. -/
theorem ownsRow_spare {w : World} {lo : Nat} {e : TypeId} {size g n cap : Nat} {xs ys : List Value} (h : w.ownsRow lo e size (.slice (some ⟨g, 0, none⟩) (n + 1) cap) (n + 1) (xs ++ ys)) (hx : xs.length = n * size) :
    n + 1 ≤ cap ∧ cap ≤ maxLen ∧ g < w.heap.size ∧ ∀ j u, ys[j]? = some u → w.cell? ⟨g, n * size + j, none⟩ = some u := by
  obtain ⟨_, a, c, h2, h3, h4, _, h6⟩ := SliceIn.of_owns h
  cases h2
  obtain ⟨b, off, e1, e2, e3⟩ := h6 (Nat.succ_pos n)
  cases e1
  refine ⟨h3, h4, e2, fun j u hu => ?_⟩
  have := e3 (n * size + j) u (by rw [List.getElem?_append_right (by omega), hx, Nat.add_sub_cancel_left]; exact hu)
  rwa [Nat.zero_add] at this
def RRoomE (w0 : World) (v : Value) : Prop := ∀ (W : World), Below w0.heap.size w0 W → Calls Try.prog 72 #[v] W (Gives (.bool true) W)
set_option maxRecDepth 100000 in
set_option maxHeartbeats 4000000 in
theorem roomE_any (w0 : World) (lo hi : Nat) (l : List Ex) (v : Value) (h : OwnExs w0 lo hi l v) : RRoomE w0 v := by
  have hl := h.reads
  induction h with
  | mk lo hi l g cap vs los his hg hs own rng apart each ih =>
  intro W hB
  obtain ⟨q1, q2, q3, q4⟩ := ownsRow_spare own (exCells_len l vs)
  have hsp := (hB.cell (p := ⟨g, l.length * 4 + 0, none⟩) q3).trans (q4 0 _ rfl)
  cases hl with
  | mk _ _ vs' hrow each' =>
  obtain ⟨n, hn⟩ : ∃ n, n = l.length := ⟨_, rfl⟩
  have Hn := Lib.hid hn
  have hrow2 := (OwnExs.mk lo hi l g cap vs los his hg hs own rng apart each).reads
  have Hrow : Hid (∀ i, i < n → ∀ x, l[i]? = some x → ExAt w0 g (0 + i * 4) x (vs i)) := by
    cases own.2 with
    | inl h => cases h.1
    | inr h =>
      intro i hi x hx
      have k : ∀ (j : Nat) u, j < 4 → (exVs x (vs i))[j]? = some u → w0.cell? ⟨g, 0 + i * 4 + j, none⟩ = some u := fun j u hj hu => by
        have h := World.ownsRow.cells own (g := g) rfl (i * 4 + j) u (by rw [List.getElem?_append_left (by rw [exCells_len]; omega), exCells_get hx j hj]; exact hu)
        have ha : (⟨g, 0, none⟩ : Addr).add (i * 4 + j) = ⟨g, 0 + i * 4 + j, none⟩ := by unfold Addr.add; split <;> simp_all
        rw [← ha]; exact h
      exact ⟨k 0 _ (by decide) rfl, k 1 _ (by decide) rfl, k 2 _ (by decide) rfl, k 3 _ (by decide) rfl⟩
  have Hih : Hid (∀ (i : Nat) x, l[i]? = some x → ExsIn w0 x.args (vs i) ∧ RRoomE w0 (vs i)) := fun i x hx => ⟨(each i x hx).reads, ih i x hx (each i x hx).reads⟩
  have HB := Lib.hid hB
  have Hsp : Hid (w0.cell? ⟨g, n * 4, none⟩ = some (.int .i64 (-77))) := by rw [hn]; exact q4 0 _ rfl
  have hq3 : g < w0.heap.size := q3
  rw [← hn] at q1 ⊢
  have hn62 : n < 9223372036854775807 := by have : maxLen ≤ 9223372036854775807 := by decide
                                            omega
  clear own rng apart each ih hrow each' hrow2 hn hsp q4 hB hg hs q3
  go_enter Try.func72, Try.ntmps72
  go_wp2_with fail
  go_loopg [3] n (fun gk iv wx => ∃ (i : Nat), gk = n - i ∧ iv = .int .i64 (i : Int) ∧ i ≤ n ∧ Below W.heap.size W wx)
  case atStart => exact ⟨0, rfl, rfl, Nat.zero_le _, Below.refl _ _⟩
  case round =>
    obtain ⟨i, hgk, rfl, hi, hbw⟩ := hrel
    have Hg := Lib.hid hgk
    have HBr : Hid (Below w0.heap.size w0 wr) := HB.out.trans (hbw.mono HB.out.size)
    have Hbw := Lib.hid hbw
    have hbs := hbw.size
    clear hgk hbw
    by_cases hin : i < n
    · obtain ⟨y, hy⟩ : ∃ y, l[i]? = some y := ⟨_, List.getElem?_eq_getElem (by rw [← Hn.out]; exact hin)⟩
      obtain ⟨i0, i1, i2, i3⟩ := (Hrow.out i hin y hy).later HBr.out hq3
      obtain ⟨ay, cy, hvs, -⟩ := (Hih.out i y hy).1.form
      have Hc := Lib.hid (Hih.out i y hy).2
      obtain ⟨ny, hny⟩ : ∃ n, n = y.args.length := ⟨_, rfl⟩
      rw [hvs, ← hny] at Hc i3
      simp only [Nat.zero_add] at i0 i1 i2 i3
      clear hy hvs hny
      go_wp2_with fail
      clear i0 i1 i2 i3
      refine (Hc.out wr HBr.out).mono ?_
      rintro E w5 ⟨rfl, hb5⟩
      have Hf : Hid (Below W.heap.size W w5) := Hbw.out.trans (hb5.mono hbs)
      clear hb5
      go_wp2_with fail
      go_roundg (n - (i + 1))
      case measure => have := Hg.out; omega
      case rel => exact ⟨i + 1, rfl, by go_num, hin, Hf.out⟩
    · obtain rfl : n = i := by omega
      have hsp := (HBr.out.cell (p := ⟨g, n * 4, none⟩) hq3).trans Hsp.out
      have hnn : n + 1 ≤ cap := q1
      go_wp2_with fail
      go_ret
      exact ⟨rfl, Hbw.out⟩
def RRoomS (w0 : World) (v : Value) : Prop := ∀ (W : World), Below w0.heap.size w0 W → Calls Try.prog 44 #[v] W (Gives (.bool true) W)
theorem ownsRow_at14 {w : World} {lo : Nat} {l : List St} {va vb vd ve vc : Nat → Value} {g n cap : Nat} {xs : List Value} (h : w.ownsRow lo 48 14 (.slice (some ⟨g, 0, none⟩) (n + 1) cap) (n + 1) (rowsOf (stRow l va vb vd ve vc) n ++ xs)) (hn : n ≤ l.length) (i : Nat) (hi : i < n) (x : St) (hx : l[i]? = some x) : StAt w g (0 + i * 14) x (va i) (vb i) (vd i) (ve i) (vc i) := by
  obtain ⟨_, _, _, k4⟩ := ownsRow_rowOf h fun j hj => stRow_len l va vb vd ve vc j (by omega)
  have k : ∀ (j : Nat) u, j < 14 → (stVs x (va i) (vb i) (vd i) (ve i) (vc i))[j]? = some u → w.cell? ⟨g, 0 + i * 14 + j, none⟩ = some u := fun j u hj hu => by
    rw [Nat.zero_add]; exact k4 i j u hi hj (by rw [stRow_at hx]; exact hu)
  exact ⟨k 0 _ (by decide) rfl, k 1 _ (by decide) rfl, k 2 _ (by decide) rfl, k 3 _ (by decide) rfl, k 4 _ (by decide) rfl, k 5 _ (by decide) rfl, k 6 _ (by decide) rfl, k 7 _ (by decide) rfl, k 8 _ (by decide) rfl, k 9 _ (by decide) rfl, k 10 _ (by decide) rfl, k 11 _ (by decide) rfl, k 12 _ (by decide) rfl, k 13 _ (by decide) rfl⟩
theorem ownsRow_at2 {w : World} {lo : Nat} {l : List Cs} {vk : Nat → Value} {g n cap : Nat} {xs : List Value} (h : w.ownsRow lo 86 2 (.slice (some ⟨g, 0, none⟩) (n + 1) cap) (n + 1) (rowsOf (csRow l vk) n ++ xs)) (hn : n ≤ l.length) (i : Nat) (hi : i < n) (x : Cs) (hx : l[i]? = some x) : CsAt w g (0 + i * 2) x (vk i) := by
  obtain ⟨_, _, _, k4⟩ := ownsRow_rowOf h fun j hj => csRow_len l vk j (by omega)
  have k : ∀ (j : Nat) u, j < 2 → (csVs x (vk i))[j]? = some u → w.cell? ⟨g, 0 + i * 2 + j, none⟩ = some u := fun j u hj hu => by
    rw [Nat.zero_add]; exact k4 i j u hi hj (by rw [csRow_at hx]; exact hu)
  exact ⟨k 0 _ (by decide) rfl, k 1 _ (by decide) rfl⟩
set_option maxRecDepth 100000 in
set_option maxHeartbeats 4000000 in
theorem roomS_any (w0 : World) (lo hi : Nat) (l : List St) (v : Value) (h : OwnSts w0 lo hi l v) : RRoomS w0 v := by
  induction h with
  | mk lo hi l g cap va vb vd ve vc vk m gc cc lk hk hg hs own rng apart ea eb ed ee ec ck ca each ihd ihe ihk =>
  intro W hB
  obtain ⟨q1, q2, q3, q4⟩ := ownsRow_spare own (rowsOf_len _ (stRow_len l va vb vd ve vc))
  obtain ⟨n, hn⟩ : ∃ n, n = l.length := ⟨_, rfl⟩
  have Hn := Lib.hid hn
  have Hrow : Hid (∀ i, i < n → ∀ x, l[i]? = some x → StAt w0 g (0 + i * 14) x (va i) (vb i) (vd i) (ve i) (vc i)) := fun i hi x hx => ownsRow_at14 own (Nat.le_refl _) i (by omega) x hx
  have Ha : Hid (∀ (i : Nat) x, l[i]? = some x → (ExsIn w0 x.a.args (va i) ∧ RRoomE w0 (va i)) ∧ ExsIn w0 x.b.args (vb i) ∧ RRoomE w0 (vb i)) := fun i x hx => ⟨⟨(ea i x hx).reads, roomE_any _ _ _ _ _ (ea i x hx)⟩, (eb i x hx).reads, roomE_any _ _ _ _ _ (eb i x hx)⟩
  have Hd : Hid (∀ (i : Nat) x, l[i]? = some x → (StsIn w0 x.body (vd i) ∧ RRoomS w0 (vd i)) ∧ StsIn w0 x.els (ve i) ∧ RRoomS w0 (ve i)) := fun i x hx => ⟨⟨(ed i x hx).reads, ihd i x hx⟩, (ee i x hx).reads, ihe i x hx⟩
  have Hc : Hid (∀ (i : Nat) x, l[i]? = some x → vc i = .slice (some ⟨gc i, 0, none⟩) x.cases.length (cc i) ∧ (x.cases.length + 1 ≤ cc i ∧ cc i ≤ maxLen ∧ gc i < w0.heap.size) ∧ w0.cell? ⟨gc i, x.cases.length * 2, none⟩ = some (.int .i64 (-77)) ∧
      ∀ (k : Nat) y, x.cases[k]? = some y → CsAt w0 (gc i) (0 + k * 2) y (vk i k) ∧ StsIn w0 y.body (vk i k) ∧ RRoomS w0 (vk i k)) := fun i x hx => by
    obtain ⟨e1, _, e3⟩ := ec i x hx
    obtain ⟨k1, k2, k3, k4⟩ := ownsRow_spare e3 (rowsOf_len _ (csRow_len x.cases (vk i)))
    exact ⟨e1, ⟨k1, k2, k3⟩, k4 0 _ rfl, fun k y hy => ⟨ownsRow_at2 e3 (Nat.le_refl _) k (List.getElem?_eq_some_iff.1 hy).1 y hy, (each i x k y hx hy).reads, ihk i x k y hx hy⟩⟩
  have HB := Lib.hid hB
  have Hsp : Hid (w0.cell? ⟨g, n * 14, none⟩ = some (.int .i64 (-77))) := by rw [hn]; exact q4 0 _ rfl
  have hq3 : g < w0.heap.size := q3
  rw [← hn] at q1 ⊢
  have hn62 : n < 9223372036854775807 := by have : maxLen ≤ 9223372036854775807 := by decide
                                            omega
  clear own rng apart ea eb ed ee ec ck ca each ihd ihe ihk hn q4 hB hg hs q3
  go_enter Try.func44, Try.ntmps44
  go_wp2_with fail
  go_loopg [3] n (fun gk iv wx => ∃ (i : Nat), gk = n - i ∧ iv = .int .i64 (i : Int) ∧ i ≤ n ∧ Below W.heap.size W wx)
  case atStart => exact ⟨0, rfl, rfl, Nat.zero_le _, Below.refl _ _⟩
  case round =>
    obtain ⟨i, hgk, rfl, hi, hbw⟩ := hrel
    have Hg := Lib.hid hgk
    have HBr : Hid (Below w0.heap.size w0 wr) := HB.out.trans (hbw.mono HB.out.size)
    have Hbw := Lib.hid hbw
    have hbs := hbw.size
    have hgr : g < wr.heap.size := by have := HBr.out.size; omega
    clear hgk hbw
    by_cases hin : i < n
    · obtain ⟨x, hx⟩ : ∃ x, l[i]? = some x := ⟨_, List.getElem?_eq_getElem (by rw [← Hn.out]; exact hin)⟩
      have hst := (Hrow.out i hin x hx).later HBr.out hq3
      obtain ⟨⟨fa, ra⟩, fb, rb⟩ := Ha.out i x hx
      obtain ⟨⟨fd, rd⟩, fe, re⟩ := Hd.out i x hx
      obtain ⟨hvc, hcc, hcs, fk⟩ := Hc.out i x hx
      obtain ⟨aa, ca', hva, -⟩ := fa.form
      obtain ⟨ab, cb, hvb, -⟩ := fb.form
      obtain ⟨ad, cd, hvd, -⟩ := fd.form
      obtain ⟨ae, ce, hve, -⟩ := fe.form
      obtain ⟨na, hna⟩ : ∃ n, n = x.a.args.length := ⟨_, rfl⟩
      obtain ⟨nb, hnb⟩ : ∃ n, n = x.b.args.length := ⟨_, rfl⟩
      obtain ⟨nd, hnd⟩ : ∃ n, n = x.body.length := ⟨_, rfl⟩
      obtain ⟨ne, hne⟩ : ∃ n, n = x.els.length := ⟨_, rfl⟩
      obtain ⟨nc, hnc⟩ : ∃ n, n = x.cases.length := ⟨_, rfl⟩
      rw [hva, hvb, hvd, hve, hvc, ← hna, ← hnb, ← hnd, ← hne, ← hnc] at hst
      rw [hva, ← hna] at ra
      rw [hvb, ← hnb] at rb
      rw [hvd, ← hnd] at rd
      rw [hve, ← hne] at re
      rw [← hnc] at hcc hcs
      obtain ⟨hcc1, hcc2, hcc3⟩ := hcc
      have HR := Lib.hid (And.intro ra (And.intro rb (And.intro rd (And.intro re fk))))
      have Hcs := Lib.hid (And.intro hcs hnc)
      have hnc62 : nc < 9223372036854775807 := by have : maxLen ≤ 9223372036854775807 := by decide
                                                  omega
      obtain ⟨D, hD⟩ : ∃ D, D = wr.heap.size := ⟨_, rfl⟩
      obtain ⟨W4, hW4⟩ : ∃ W4, W4 = wr.alloc (.cells #[.int .i64 x.kind, .string x.name, .int .i64 x.n, .int .i64 x.a.kind, .int .i64 x.a.n, .string x.a.name, .slice aa na ca', .int .i64 x.b.kind, .int .i64 x.b.n, .string x.b.name, .slice ab nb cb, .slice ad nd cd, .slice ae ne ce, .slice (some ⟨gc i, 0, none⟩) nc (cc i)] 48) := ⟨_, rfl⟩
      have hb4 : Below wr.heap.size wr W4 := by rw [hW4]; exact (Below.refl _ _).alloc (Nat.le_refl _) _
      have hs4 : StAt W4 D 0 x (.slice aa na ca') (.slice ab nb cb) (.slice ad nd cd) (.slice ae ne ce) (.slice (some ⟨gc i, 0, none⟩) nc (cc i)) := by rw [hW4, hD]; constructor <;> exact World.cell?_alloc_at _ _ _ _ rfl
      have hz4 : D < W4.heap.size := by rw [hW4, World.size_alloc]; omega
      have HB4 : Hid (Below w0.heap.size w0 W4) := HBr.out.trans (hb4.mono HBr.out.size)
      have Hw4 : Hid (Below W.heap.size W W4) := Hbw.out.trans (hb4.mono hbs)
      have Hs4 := Lib.hid hs4
      have HW4 := Lib.hid (And.intro hW4 hD)
      have hz40 : w0.heap.size ≤ W4.heap.size ∧ W.heap.size ≤ W4.heap.size := by have := HB4.out.size; have := Hw4.out.size; omega
      simp only [Nat.zero_add] at hst
      obtain ⟨i0, i1, i2, i3, i4, i5, i6, i7, i8, i9, i10, i11, i12, i13⟩ := hst
      clear hb4 hs4 hW4 hD fa ra fb rb fd rd fe re hvc hcs fk hva hvb hvd hve hna hnb hnd hne hnc hx
      go_upto_region 5 with (fail)
      rw [← HW4.out.1, ← HW4.out.2]
      clear i0 i1 i2 i3 i4 i5 i6 i7 i8 i9 i10 i11 i12 i13
      obtain ⟨i0, i1, i2, i3, i4, i5, i6, i7, i8, i9, i10, i11, i12, i13⟩ := Hs4.out
      simp only [Nat.zero_add] at i0 i1 i2 i3 i4 i5 i6 i7 i8 i9 i10 i11 i12 i13
      clear i0 i1 i2 i3 i4 i5 i7 i8 i9
      go_wp2_with fail
      clear i6 i10 i11 i12 i13
      refine (HR.out.1 W4 HB4.out).mono ?_
      rintro E w5 ⟨rfl, hb5⟩
      have Hb5 := Lib.hid hb5
      clear hb5
      obtain ⟨i0, i1, i2, i3, i4, i5, i6, i7, i8, i9, i10, i11, i12, i13⟩ := Hs4.out.later Hb5.out hz4
      simp only [Nat.zero_add] at i0 i1 i2 i3 i4 i5 i6 i7 i8 i9 i10 i11 i12 i13
      clear i0 i1 i2 i3 i4 i5 i7 i8 i9
      go_wp2_with fail
      clear i6 i10 i11 i12 i13
      refine (HR.out.2.1 w5 (HB4.out.trans (Hb5.out.mono hz40.1))).mono ?_
      rintro E w6 ⟨rfl, hb6⟩
      have Hb6 : Hid (Below W4.heap.size W4 w6) := Hb5.out.trans (hb6.mono Hb5.out.size)
      clear hb6
      obtain ⟨i0, i1, i2, i3, i4, i5, i6, i7, i8, i9, i10, i11, i12, i13⟩ := Hs4.out.later Hb6.out hz4
      simp only [Nat.zero_add] at i0 i1 i2 i3 i4 i5 i6 i7 i8 i9 i10 i11 i12 i13
      clear i0 i1 i2 i3 i4 i5 i7 i8 i9
      go_wp2_with fail
      clear i6 i10 i11 i12 i13
      refine (HR.out.2.2.1 w6 (HB4.out.trans (Hb6.out.mono hz40.1))).mono ?_
      rintro E w7 ⟨rfl, hb7⟩
      have Hb7 : Hid (Below W4.heap.size W4 w7) := Hb6.out.trans (hb7.mono Hb6.out.size)
      clear hb7
      obtain ⟨i0, i1, i2, i3, i4, i5, i6, i7, i8, i9, i10, i11, i12, i13⟩ := Hs4.out.later Hb7.out hz4
      simp only [Nat.zero_add] at i0 i1 i2 i3 i4 i5 i6 i7 i8 i9 i10 i11 i12 i13
      clear i0 i1 i2 i3 i4 i5 i7 i8 i9
      go_wp2_with fail
      clear i6 i10 i11 i12 i13
      refine (HR.out.2.2.2.1 w7 (HB4.out.trans (Hb7.out.mono hz40.1))).mono ?_
      rintro E w8 ⟨rfl, hb8⟩
      have Hb8 : Hid (Below W4.heap.size W4 w8) := Hb7.out.trans (hb8.mono Hb7.out.size)
      clear hb8
      go_wp2_with fail
      obtain ⟨Wo, hWo⟩ : ∃ wo : World, wo = wr := ⟨_, rfl⟩
      subst hWo
      go_loopg [5] nc (fun gk kv wx => ∃ (k : Nat), gk = nc - k ∧ kv = .int .i64 (k : Int) ∧ k ≤ nc ∧ Below W4.heap.size W4 wx)
      case atStart => exact ⟨0, rfl, rfl, Nat.zero_le _, Hb8.out⟩
      case round =>
        obtain ⟨k, hgk, rfl, hk', hbk⟩ := hrel
        have Hgk := Lib.hid hgk
        have Hbk := Lib.hid hbk
        have HBk : Hid (Below w0.heap.size w0 wr) := HB4.out.trans (hbk.mono hz40.1)
        obtain ⟨i0, i1, i2, i3, i4, i5, i6, i7, i8, i9, i10, i11, i12, i13⟩ := Hs4.out.later hbk hz4
        simp only [Nat.zero_add] at i0 i1 i2 i3 i4 i5 i6 i7 i8 i9 i10 i11 i12 i13
        have hgc : gc i < wr.heap.size := by have := HBk.out.size; omega
        have hzk := hbk.size
        clear hgk hbk i0 i1 i2 i3 i4 i5 i6 i7 i8 i9 i10 i11 i12
        by_cases hkn : k < nc
        · obtain ⟨y, hy⟩ : ∃ y, x.cases[k]? = some y := ⟨_, List.getElem?_eq_getElem (by rw [← Hcs.out.2]; exact hkn)⟩
          obtain ⟨f1, f2, f3⟩ := HR.out.2.2.2.2 k y hy
          obtain ⟨e0, e1⟩ := f1.later HBk.out hcc3
          obtain ⟨ay, cy, hvs, -⟩ := f2.form
          have Hc3 := Lib.hid f3
          obtain ⟨ny, hny⟩ : ∃ n, n = y.body.length := ⟨_, rfl⟩
          rw [hvs, ← hny] at Hc3 e1
          simp only [Nat.zero_add] at e0 e1
          clear f1 f2 f3 hy hvs hny
          go_wp2_with fail
          clear i13 e0 e1
          refine (Hc3.out wr HBk.out).mono ?_
          rintro E w9 ⟨rfl, hb9⟩
          have Hf : Hid (Below W4.heap.size W4 w9) := Hbk.out.trans (hb9.mono hzk)
          clear hb9
          go_wp2_with fail
          go_roundg (nc - (k + 1))
          case measure => have := Hgk.out; omega
          case rel => exact ⟨k + 1, rfl, by go_num, hkn, Hf.out⟩
        · obtain rfl : nc = k := by omega
          have hsp := (HBk.out.cell (p := ⟨gc i, nc * 2, none⟩) hcc3).trans Hcs.out.1
          have Hf : Hid (Below W.heap.size W wr) := Hw4.out.trans (Hbk.out.mono hz40.2)
          go_wp2_with fail
          go_roundg (n - (i + 1))
          case measure => have := Hg.out; omega
          case rel => exact ⟨i + 1, rfl, by go_num, hin, Hf.out⟩
    · obtain rfl : n = i := by omega
      have hsp := (HBr.out.cell (p := ⟨g, n * 14, none⟩) hq3).trans Hsp.out
      go_wp2_with fail
      go_ret
      exact ⟨rfl, Hbw.out⟩
end Go.Proofs.Ytgcplcffejbniaa

/- R2.Room: the room behind all lists of a copy reads as Copy left it. -/
namespace Go.Proofs.Ytgcplcffejbniaa
open Go.RowKit

set_option maxRecDepth 100000 in
set_option maxHeartbeats 4000000 in
theorem room_any (p : Pg) (v : Value) (lo : Nat) (w0 : World) (h : OwnsPg w0 lo p v) (W : World) (hB : Below w0.heap.size w0 W) : Calls Try.prog 23 #[v] W (Gives (.bool true) W) := by
  obtain ⟨mid, gw, cw, g, cap, vp, vb, q, m0, m1, gp, cp, rfl, hcw, hcap, ho⟩ := h
  obtain ⟨x1, x2, x3, x4⟩ := ownsRow_spare ho.widen (by simp [intVs])
  obtain ⟨y1, y2, y3, y4⟩ := ownsRow_spare ho.fns.own (rowsOf_len _ (fnRow_len p.funcs vp vb))
  obtain ⟨m, hm⟩ : ∃ m, m = p.widen.length := ⟨_, rfl⟩
  obtain ⟨n, hn⟩ : ∃ n, n = p.funcs.length := ⟨_, rfl⟩
  have Hlen := Lib.hid (And.intro hm hn)
  have Hsp : Hid (w0.cell? ⟨gw, m, none⟩ = some (.int .i64 (-77)) ∧ w0.cell? ⟨g, n * 3, none⟩ = some (.string ⟨#[63]⟩)) := by
    have := x4 0 _ rfl
    rw [hm, hn]
    exact ⟨by simpa using this, y4 0 _ rfl⟩
  have Hrow : Hid (∀ i, i < n → ∀ x, p.funcs[i]? = some x → FnCells w0 g (0 + i * 3) x (vp i) (vb i)) := fun i hi x hx => by
    obtain ⟨_, _, _, k4⟩ := ownsRow_rowOf ho.fns.own (fnRow_len p.funcs vp vb)
    have k : ∀ (j : Nat) u, j < 3 → ([.string x.name, vp i, vb i] : List Value)[j]? = some u → w0.cell? ⟨g, 0 + i * 3 + j, none⟩ = some u := fun j u hj hu => by
      rw [Nat.zero_add]; exact k4 i j u (by omega) hj (by rw [fnRow_at hx]; exact hu)
    exact ⟨k 0 _ (by decide) rfl, k 1 _ (by decide) rfl, k 2 _ (by decide) rfl⟩
  have Hf : Hid (∀ (i : Nat) x, p.funcs[i]? = some x → vp i = .slice (some ⟨gp i, 0, none⟩) x.params.length (cp i) ∧ (x.params.length + 1 ≤ cp i ∧ cp i ≤ maxLen ∧ gp i < w0.heap.size) ∧ w0.cell? ⟨gp i, x.params.length * 3, none⟩ = some (.string ⟨#[63]⟩) ∧ StsIn w0 x.body (vb i) ∧ RRoomS w0 (vb i)) := fun i x hx => by
    have e := ho.fns.each i x (List.getElem?_eq_some_iff.1 hx).1 hx
    obtain ⟨k1, k2, k3, k4⟩ := ownsRow_spare e.own (rowsOf_len _ (pmRow_len x.params))
    exact ⟨e.vp, ⟨k1, k2, k3⟩, k4 0 _ rfl, e.body.reads, roomS_any _ _ _ _ _ e.body⟩
  have HB := Lib.hid hB
  have hgs : g < w0.heap.size ∧ gw < w0.heap.size := ⟨y3, x3⟩
  rw [← hm] at x1 ⊢
  rw [← hn] at y1 ⊢
  have hm62 : m < 9223372036854775807 ∧ n < 9223372036854775807 := by have : maxLen ≤ 9223372036854775807 := by decide
                                                                      omega
  obtain ⟨hm62, hn62⟩ := hm62
  obtain ⟨B, hBe⟩ : ∃ B, B = W.heap.size := ⟨_, rfl⟩
  obtain ⟨Wa, hWa⟩ : ∃ w : World, w = W.alloc (.cells #[.slice (some ⟨gw, 0, none⟩) m cw, .slice (some ⟨g, 0, none⟩) n cap] 26) := ⟨_, rfl⟩
  have hba : Below W.heap.size W Wa := by rw [hWa]; exact (Below.refl _ _).alloc (Nat.le_refl _) _
  have hza : Wa.heap.size = B + 1 := by rw [hWa, hBe]; simp
  have hbx : Wa.cell? ⟨B, 0, none⟩ = some (.slice (some ⟨gw, 0, none⟩) m cw) ∧ Wa.cell? ⟨B, 1, none⟩ = some (.slice (some ⟨g, 0, none⟩) n cap) := by
    rw [hWa, hBe]
    exact ⟨World.cell?_alloc_at _ _ _ _ rfl, World.cell?_alloc_at _ _ _ _ rfl⟩
  have Hba := Lib.hid (And.intro hba (And.intro hza hbx))
  have HWa := Lib.hid (And.intro hWa hBe)
  have hBW : W.heap.size ≤ B ∧ B ≤ W.heap.size ∧ B < Wa.heap.size := by omega
  have HBa : Hid (Below w0.heap.size w0 Wa) := HB.out.trans (hba.mono HB.out.size)
  obtain ⟨c0, c1⟩ := hbx
  unfold pgV
  clear x2 x3 x4 y2 y3 y4 ho hm hn hB hWa hBe hba hza hcw hcap
  go_enter Try.func23, Try.ntmps23
  go_upto_region 1 with (fail)
  rw [← HWa.out.1, ← HWa.out.2]
  go_wp2_with fail
  clear c0 c1
  go_loopg [3] n (fun gk iv wx => ∃ (i : Nat), gk = n - i ∧ iv = .int .i64 (i : Int) ∧ i ≤ n ∧ Below Wa.heap.size Wa wx)
  case atStart => exact ⟨0, rfl, rfl, Nat.zero_le _, Below.refl _ _⟩
  case round =>
    obtain ⟨i, hgk, rfl, hi, hbw⟩ := hrel
    have Hg := Lib.hid hgk
    have HBr : Hid (Below w0.heap.size w0 wr) := HBa.out.trans (hbw.mono HBa.out.size)
    have Hbw := Lib.hid hbw
    have kc := fun b j (h : b < Wa.heap.size) => hbw.cell (p := ⟨b, j, none⟩) h
    obtain ⟨c0, c1⟩ := Hba.out.2.2
    rw [← kc _ _ (by omega)] at c0 c1
    have hsz := hbw.size
    clear hgk hbw kc
    by_cases hin : i < n
    · obtain ⟨x, hx⟩ : ∃ x, p.funcs[i]? = some x := ⟨_, List.getElem?_eq_getElem (by rw [← Hlen.out.2]; exact hin)⟩
      have hst := (Hrow.out i hin x hx).later HBr.out hgs.1
      obtain ⟨hvp, ⟨k1, k2, k3⟩, hsp, hfb, hrb⟩ := Hf.out i x hx
      obtain ⟨ab, cb, hvb, -⟩ := hfb.form
      obtain ⟨np, hnp⟩ : ∃ n, n = x.params.length := ⟨_, rfl⟩
      obtain ⟨nb, hnb⟩ : ∃ n, n = x.body.length := ⟨_, rfl⟩
      rw [hvp, hvb, ← hnp, ← hnb] at hst
      rw [hvb, ← hnb] at hrb
      rw [← hnp] at k1 hsp
      have hnp62 : np < 9223372036854775807 := by have : maxLen ≤ 9223372036854775807 := by decide
                                                  omega
      have HR := Lib.hid (And.intro hsp hrb)
      obtain ⟨D, hD⟩ : ∃ D, D = wr.heap.size := ⟨_, rfl⟩
      obtain ⟨W4, hW4⟩ : ∃ W4, W4 = wr.alloc (.cells #[.string x.name, .slice (some ⟨gp i, 0, none⟩) np (cp i), .slice ab nb cb] 40) := ⟨_, rfl⟩
      have hb4 : Below wr.heap.size wr W4 := by rw [hW4]; exact (Below.refl _ _).alloc (Nat.le_refl _) _
      have hs4 : FnCells W4 D 0 x (.slice (some ⟨gp i, 0, none⟩) np (cp i)) (.slice ab nb cb) := by rw [hW4, hD]; constructor <;> exact World.cell?_alloc_at _ _ _ _ rfl
      have HB4 : Hid (Below w0.heap.size w0 W4) := HBr.out.trans (hb4.mono HBr.out.size)
      have Hw4 : Hid (Below Wa.heap.size Wa W4) := Hbw.out.trans (hb4.mono hsz)
      have hsp4 := (HB4.out.cell (p := ⟨gp i, np * 3, none⟩) k3).trans hsp
      have HW4 := Lib.hid (And.intro hW4 hD)
      have hz4 : Wa.heap.size ≤ W4.heap.size := Hw4.out.size
      obtain ⟨i0, i1, i2⟩ := hst
      simp only [Nat.zero_add] at i0 i1 i2
      obtain ⟨j0, j1, j2⟩ := hs4
      simp only [Nat.zero_add] at j0 j1 j2
      clear hb4 hW4 hD hsp hrb hfb hvp hvb hnp hnb hx
      go_upto_region 5 with (fail)
      rw [← HW4.out.1, ← HW4.out.2]
      clear i0 i1 i2 c0 c1 j0
      go_wp2_with fail
      clear j1 j2 hsp4
      refine (HR.out.2 W4 HB4.out).mono ?_
      rintro E w5 ⟨rfl, hb5⟩
      have Hf5 : Hid (Below Wa.heap.size Wa w5) := Hw4.out.trans (hb5.mono hz4)
      clear hb5
      go_wp2_with fail
      go_roundg (n - (i + 1))
      case measure => have := Hg.out; omega
      case rel => exact ⟨i + 1, rfl, by go_num, hin, Hf5.out⟩
    · obtain rfl : n = i := by omega
      have s1 := (HBr.out.cell (p := ⟨gw, m, none⟩) hgs.2).trans Hsp.out.1
      have s2 := (HBr.out.cell (p := ⟨g, n * 3, none⟩) hgs.1).trans Hsp.out.2
      go_wp2_with fail
      go_ret
      exact ⟨rfl, Hba.out.1.trans (Hbw.out.mono (by omega))⟩
end Go.Proofs.Ytgcplcffejbniaa

/- spoilE, spoilS: lists of one's own are written over; nothing else is. -/
namespace Go.Proofs.Ytgcplcffejbniaa
open Go.RowKit

def In (lo hi k : Nat) : Prop := lo ≤ k ∧ k < hi
/-- The world is as w0 in the blocks [lo, hi). -/
def Like (w0 W : World) (lo hi : Nat) : Prop := hi ≤ W.heap.size ∧ ∀ k, lo ≤ k → k < hi → W.heap[k]? = w0.heap[k]?
theorem Like.part {w0 W : World} {lo hi lo' hi' : Nat} (h : Like w0 W lo hi) (h1 : lo ≤ lo') (h2 : hi' ≤ hi) : Like w0 W lo' hi' := ⟨Nat.le_trans h2 h.1, fun k k1 k2 => h.2 k (by omega) (by omega)⟩
theorem Like.oth {w0 W W' : World} {lo hi : Nat} {S : Nat → Prop} (h : Like w0 W lo hi) (hO : Oth S W W') (hS : ∀ k, lo ≤ k → k < hi → ¬ S k) : Like w0 W' lo hi := ⟨Nat.le_trans h.1 hO.size, fun k k1 k2 => (hO.block k (by have := h.1; omega) (hS k k1 k2)).trans (h.2 k k1 k2)⟩
def RSpoilE (w0 : World) (lo hi : Nat) (v : Value) : Prop := ∀ (W : World), Like w0 W lo hi → Calls Try.prog 73 #[v] W (fun E W' => E = .returned (.tuple #[]) ∧ Oth (In lo hi) W W')
/-- The rows from i on of block g read as in W; nothing of it is frozen. -/
structure RowsFrom (W wx : World) (g o : Nat) : Prop where
  cell : ∀ j u, o ≤ j → W.cell? ⟨g, j, none⟩ = some u → wx.cell? ⟨g, j, none⟩ = some u
  fr : ∀ j, wx.frozen? ⟨g, j, none⟩ = W.frozen? ⟨g, j, none⟩
theorem RowsFrom.refl (W : World) (g o : Nat) : RowsFrom W W g o := ⟨fun _ _ _ h => h, fun _ => rfl⟩
theorem RowsFrom.oth {W wx w' : World} {g o : Nat} {S : Nat → Prop} (h : RowsFrom W wx g o) (hO : Oth S wx w') (hg : g < wx.heap.size) (hS : ¬ S g) : RowsFrom W w' g o :=
  ⟨fun j u h1 h2 => (hO.cell (p := ⟨g, j, none⟩) hg hS).trans (h.cell j u h1 h2), fun j => (hO.frozen (p := ⟨g, j, none⟩) hg hS).trans (h.fr j)⟩
theorem RowsFrom.set {W wx : World} {g o o' : Nat} (h : RowsFrom W wx g o) (ho : o ≤ o') {a : Nat} (ha : a < o') (v : Value) : RowsFrom W (wx.setCell ⟨g, a, none⟩ v) g o' :=
  ⟨fun j u h1 h2 => by rw [World.cell?_setCell_other _ _ _ _ (by intro e; cases e; omega)]; exact h.cell j u (by omega) h2, fun j => by rw [World.frozen?_setCell]; exact h.fr j⟩
set_option maxRecDepth 100000 in
set_option maxHeartbeats 4000000 in
theorem spoilE_any (w0 : World) (lo hi : Nat) (l : List Ex) (v : Value) (h : OwnExs w0 lo hi l v) : RSpoilE w0 lo hi v := by
  induction h with
  | mk lo hi l g cap vs los his hg hs own rng apart each ih =>
  intro W hL
  obtain ⟨q1, q2, q3, -⟩ := ownsRow_spare own (exCells_len l vs)
  have hgW : W.heap[g]? = w0.heap[g]? := hL.2 g hg.1 hg.2
  have hown : W.ownsRow lo 43 4 (.slice (some ⟨g, 0, none⟩) (l.length + 1) cap) (l.length + 1) (exCells l vs ++ spareEx) := ownsRow_at own hgW
  obtain ⟨n, hn⟩ : ∃ n, n = l.length := ⟨_, rfl⟩
  have Hn := Lib.hid hn
  have Hrow : Hid (∀ i, i < n → ∀ x, l[i]? = some x → ∀ (j : Nat) u, j < 4 → (exVs x (vs i))[j]? = some u → W.cell? ⟨g, i * 4 + j, none⟩ = some u) := fun i hi x hx j u hj hu => by
    have h := World.ownsRow.cells hown (g := g) rfl (i * 4 + j) u (by rw [List.getElem?_append_left (by rw [exCells_len]; omega), exCells_get hx j hj]; exact hu)
    have ha : (⟨g, 0, none⟩ : Addr).add (i * 4 + j) = ⟨g, i * 4 + j, none⟩ := by unfold Addr.add; split <;> simp_all
    rw [← ha]; exact h
  have Hfr : Hid (∀ j, W.frozen? ⟨g, j, none⟩ = false) := World.ownsRow.frozenAt hown
  have Hih : Hid (∀ (i : Nat) x, l[i]? = some x → ExsIn w0 x.args (vs i) ∧ RSpoilE w0 (los i) (his i) (vs i)) := fun i x hx => ⟨(each i x hx).reads, ih i x hx⟩
  have HL := Lib.hid hL
  have Hr : Hid ((∀ i, i < n → lo ≤ los i ∧ los i ≤ his i ∧ his i ≤ hi ∧ ¬ (los i ≤ g ∧ g < his i)) ∧ (∀ i j, i < j → j < n → his i ≤ los j)) := by rw [hn]; exact ⟨rng, apart⟩
  have hgs : g < W.heap.size := by have := hL.1; omega
  have hnc : n ≤ cap := by omega
  have hn62 : n < 9223372036854775807 := by have : maxLen ≤ 9223372036854775807 := by decide
                                            omega
  rw [← hn]
  clear own rng apart each ih hn hL q1 q2 q3 hown hgW hs
  go_enter Try.func73, Try.ntmps73
  go_wp2_with fail
  go_loopg [2] n (fun gk iv wx => ∃ (i : Nat), gk = n - i ∧ iv = .int .i64 (i : Int) ∧ i ≤ n ∧ Oth (fun k => k = g ∨ ∃ j, j < i ∧ In (los j) (his j) k) W wx ∧ RowsFrom W wx g (i * 4))
  case atStart => exact ⟨0, rfl, rfl, Nat.zero_le _, Oth.refl _ _, RowsFrom.refl _ _ _⟩
  case round =>
    obtain ⟨i, hgk, rfl, hi, hO, hR⟩ := hrel
    have Hg := Lib.hid hgk
    have HO := Lib.hid hO
    have HR := Lib.hid hR
    have hsz := hO.size
    clear hgk hO hR
    by_cases hin : i < n
    · obtain ⟨y, hy⟩ : ∃ y, l[i]? = some y := ⟨_, List.getElem?_eq_getElem (by rw [← Hn.out]; exact hin)⟩
      have k := fun j u hj hu => HR.out.cell (i * 4 + j) u (by omega) (Hrow.out i hin y hy j u hj hu)
      have i0 := k 0 _ (by decide) rfl
      have i1 := k 1 _ (by decide) rfl
      have i2 := k 2 _ (by decide) rfl
      have i3 := k 3 _ (by decide) rfl
      obtain ⟨ay, cy, hvs, -⟩ := (Hih.out i y hy).1.form
      have Hc := Lib.hid (Hih.out i y hy).2
      obtain ⟨ny, hny⟩ : ∃ n, n = y.args.length := ⟨_, rfl⟩
      rw [hvs, ← hny] at Hc i3
      simp only [Nat.add_zero] at i0
      have HLi : Hid (Like w0 wr (los i) (his i)) := by
        have r := Hr.out.1 i hin
        refine (HL.out.part r.1 r.2.2.1).oth HO.out fun k h1 h2 hS => ?_
        rcases hS with rfl | ⟨j, hj, h3⟩
        · exact r.2.2.2 ⟨h1, h2⟩
        · have := Hr.out.2 j i hj hin
          unfold In at h3
          omega
      have hgi : ¬ In (los i) (his i) g := (Hr.out.1 i hin).2.2.2
      have hgw : g < wr.heap.size := by omega
      clear hy hvs hny k
      go_wp2_with fail
      refine (Hc.out wr HLi.out).mono ?_
      rintro E w5 ⟨rfl, hO5⟩
      have HR5 := Lib.hid (HR.out.oth hO5 hgw hgi)
      have HO5 : Hid (Oth (fun k => k = g ∨ ∃ j, j < i + 1 ∧ In (los j) (his j) k) W w5) := by
        refine (HO.out.imp fun k _ h => ?_).trans (hO5.imp fun k _ h => .inr ⟨i, Nat.lt_succ_self _, h⟩)
        rcases h with rfl | ⟨j, hj, h3⟩
        · exact .inl rfl
        · exact .inr ⟨j, by omega, h3⟩
      have e := fun j => hO5.cell (p := ⟨g, j, none⟩) hgw hgi
      rw [← e] at i0 i1 i2 i3
      have f := fun j => (HR5.out.fr j).trans (Hfr.out j)
      have f0 := f (i * 4)
      have f1 := f (i * 4 + 1)
      have f2 := f (i * 4 + 2)
      have f3 := f (i * 4 + 3)
      clear hO5 e f
      go_wp2_with fail
      go_roundg (n - (i + 1))
      case measure => have := Hg.out; omega
      case rel =>
        refine ⟨i + 1, rfl, by go_num, hin, ?_, ?_⟩
        · exact (((HO5.out.set (.inl rfl) _).set (.inl rfl) _).set (.inl rfl) _).set (.inl rfl) _
        · exact (((HR5.out.set (o' := (i + 1) * 4) (by omega) (by omega) _).set (Nat.le_refl _) (by omega) _).set (Nat.le_refl _) (by omega) _).set (Nat.le_refl _) (by omega) _
    · obtain rfl : n = i := by omega
      go_wp2_with fail
      refine bodyPost_end (results_none rfl _ _ _) rfl ?_
      refine ⟨rfl, HO.out.imp fun k _ h => ?_⟩
      rcases h with rfl | ⟨j, hj, h3⟩
      · exact hg
      · have := Hr.out.1 j hj
        unfold In at *
        omega
def RSpoilS (w0 : World) (lo hi : Nat) (v : Value) : Prop := ∀ (W : World), Like w0 W lo hi → Calls Try.prog 45 #[v] W (fun E W' => E = .returned (.tuple #[]) ∧ Oth (In lo hi) W W')
theorem RowsFrom.setCells {W wx : World} {g o o' : Nat} (h : RowsFrom W wx g o) (vs : List Value) (a : Nat) (ho : o ≤ o') (ha : a + vs.length = o') : RowsFrom W (wx.setCells g a vs) g o' := by
  refine ⟨fun j u h1 h2 => ?_, fun j => by rw [World.frozen?_setCells]; exact h.fr j⟩
  rw [World.cell?_setCells_out _ _ _ _ _ (fun _ _ => .inr (by show a + vs.length ≤ j; omega))]
  exact h.cell j u (by omega) h2
theorem oth_cells {S : Nat → Prop} {w wx : World} {D : Nat} (hD : S D) (vs : List Value) (o : Nat) (h : Oth S w wx) : Oth S w (wx.setCells D o vs) := by
  induction vs generalizing o wx with
  | nil => exact h
  | cons v l ih => exact ih _ (h.set (p := ⟨D, o, none⟩) hD v)
set_option maxRecDepth 100000 in
set_option maxHeartbeats 4000000 in
theorem spoilS_any (w0 : World) (lo hi : Nat) (l : List St) (v : Value) (h : OwnSts w0 lo hi l v) : RSpoilS w0 lo hi v := by
  induction h with
  | mk lo hi l g cap va vb vd ve vc vk m gc cc lk hk hg hs own rng apart ea eb ed ee ec ck ca each ihd ihe ihk =>
  intro W hL
  obtain ⟨q1, q2, q3, -⟩ := ownsRow_spare own (rowsOf_len _ (stRow_len l va vb vd ve vc))
  have hgW : W.heap[g]? = w0.heap[g]? := hL.2 g hg.1 hg.2
  have hown := ownsRow_at own hgW
  obtain ⟨n, hn⟩ : ∃ n, n = l.length := ⟨_, rfl⟩
  have Hn := Lib.hid hn
  have Hrow : Hid (∀ i, i < n → ∀ x, l[i]? = some x → StAt W g (0 + i * 14) x (va i) (vb i) (vd i) (ve i) (vc i)) := fun i hi x hx => ownsRow_at14 hown (Nat.le_refl _) i (by omega) x hx
  have Hfr : Hid (∀ j, W.frozen? ⟨g, j, none⟩ = false) := World.ownsRow.frozenAt hown
  have Hr : Hid ((∀ i, i < n → lo ≤ m i 0 ∧ m i 0 ≤ m i 1 ∧ m i 1 ≤ m i 2 ∧ m i 2 ≤ m i 3 ∧ m i 3 ≤ m i 4 ∧ m i 4 ≤ m i 5 ∧ m i 5 ≤ hi ∧ ¬ (m i 0 ≤ g ∧ g < m i 5)) ∧ (∀ i j, i < j → j < n → m i 5 ≤ m j 0)) := by rw [hn]; exact ⟨rng, apart⟩
  have Ha : Hid (∀ (i : Nat) x, l[i]? = some x → (ExsIn w0 x.a.args (va i) ∧ RSpoilE w0 (m i 0) (m i 1) (va i)) ∧ ExsIn w0 x.b.args (vb i) ∧ RSpoilE w0 (m i 1) (m i 2) (vb i)) := fun i x hx => ⟨⟨(ea i x hx).reads, spoilE_any _ _ _ _ _ (ea i x hx)⟩, (eb i x hx).reads, spoilE_any _ _ _ _ _ (eb i x hx)⟩
  have Hd : Hid (∀ (i : Nat) x, l[i]? = some x → (StsIn w0 x.body (vd i) ∧ RSpoilS w0 (m i 2) (m i 3) (vd i)) ∧ StsIn w0 x.els (ve i) ∧ RSpoilS w0 (m i 3) (m i 4) (ve i)) := fun i x hx => ⟨⟨(ed i x hx).reads, ihd i x hx⟩, (ee i x hx).reads, ihe i x hx⟩
  have Hc : Hid (∀ (i : Nat) x, l[i]? = some x → vc i = .slice (some ⟨gc i, 0, none⟩) x.cases.length (cc i) ∧ (x.cases.length + 1 ≤ cc i ∧ cc i ≤ maxLen) ∧ (m i 4 ≤ gc i ∧ gc i < m i 5) ∧ (∀ W : World, W.heap[gc i]? = w0.heap[gc i]? → ∀ j, W.frozen? ⟨gc i, j, none⟩ = false) ∧
      (∀ k, k < x.cases.length → m i 4 ≤ lk i k ∧ lk i k ≤ hk i k ∧ hk i k ≤ m i 5 ∧ ¬ (lk i k ≤ gc i ∧ gc i < hk i k)) ∧ (∀ j k, j < k → k < x.cases.length → hk i j ≤ lk i k) ∧
      ∀ (k : Nat) y, x.cases[k]? = some y → (∀ W : World, W.heap[gc i]? = w0.heap[gc i]? → CsAt W (gc i) (0 + k * 2) y (vk i k)) ∧ StsIn w0 y.body (vk i k) ∧ RSpoilS w0 (lk i k) (hk i k) (vk i k)) := fun i x hx => by
    obtain ⟨e1, e2, e3⟩ := ec i x hx
    obtain ⟨k1, k2, k3, k4⟩ := ownsRow_spare e3 (rowsOf_len _ (csRow_len x.cases (vk i)))
    exact ⟨e1, ⟨k1, k2⟩, e2, fun W hW => World.ownsRow.frozenAt (ownsRow_at e3 hW), fun k => ck i x k hx, fun j k => ca i x j k hx, fun k y hy => ⟨fun W hW => ownsRow_at2 (ownsRow_at e3 hW) (Nat.le_refl _) k (List.getElem?_eq_some_iff.1 hy).1 y hy, (each i x k y hx hy).reads, ihk i x k y hx hy⟩⟩
  have HL := Lib.hid hL
  have hgs : g < W.heap.size := by have := hL.1; omega
  have hnc : n ≤ cap := by omega
  have hn62 : n < 9223372036854775807 := by have : maxLen ≤ 9223372036854775807 := by decide
                                            omega
  rw [← hn]
  clear own rng apart ea eb ed ee ec ck ca each ihd ihe ihk hn hL q1 q2 q3 hown hgW hs
  go_enter Try.func45, Try.ntmps45
  go_wp2_with fail
  go_loopg [2] n (fun gk iv wx => ∃ (i : Nat), gk = n - i ∧ iv = .int .i64 (i : Int) ∧ i ≤ n ∧ Oth (fun k => k = g ∨ ∃ j, j < i ∧ In (m j 0) (m j 5) k) W wx ∧ RowsFrom W wx g (i * 14))
  case atStart => exact ⟨0, rfl, rfl, Nat.zero_le _, Oth.refl _ _, RowsFrom.refl _ _ _⟩
  case round =>
    obtain ⟨i, hgk, rfl, hi, hO, hR⟩ := hrel
    have Hg := Lib.hid hgk
    have HO := Lib.hid hO
    have HR := Lib.hid hR
    have hsz := hO.size
    clear hgk hO hR
    by_cases hin : i < n
    · obtain ⟨x, hx⟩ : ∃ x, l[i]? = some x := ⟨_, List.getElem?_eq_getElem (by rw [← Hn.out]; exact hin)⟩
      obtain ⟨⟨fa, ra⟩, fb, rb⟩ := Ha.out i x hx
      obtain ⟨⟨fd, rd⟩, fe, re⟩ := Hd.out i x hx
      obtain ⟨hvc, ⟨hcc1, hcc2⟩, hgc, hcf, hck, hca, hcx⟩ := Hc.out i x hx
      obtain ⟨aa, ca', hva, -⟩ := fa.form
      obtain ⟨ab, cb, hvb, -⟩ := fb.form
      obtain ⟨ad, cd, hvd, -⟩ := fd.form
      obtain ⟨ae, ce, hve, -⟩ := fe.form
      obtain ⟨na, hna⟩ : ∃ n, n = x.a.args.length := ⟨_, rfl⟩
      obtain ⟨nb, hnb⟩ : ∃ n, n = x.b.args.length := ⟨_, rfl⟩
      obtain ⟨nd, hnd⟩ : ∃ n, n = x.body.length := ⟨_, rfl⟩
      obtain ⟨ne, hne⟩ : ∃ n, n = x.els.length := ⟨_, rfl⟩
      obtain ⟨nc, hnc'⟩ : ∃ n, n = x.cases.length := ⟨_, rfl⟩
      have hst := Hrow.out i hin x hx
      rw [hva, hvb, hvd, hve, hvc, ← hna, ← hnb, ← hnd, ← hne, ← hnc'] at hst
      rw [hva, ← hna] at ra
      rw [hvb, ← hnb] at rb
      rw [hvd, ← hnd] at rd
      rw [hve, ← hne] at re
      rw [← hnc'] at hcc1 hck hca
      have HS := Lib.hid (And.intro ra (And.intro rb (And.intro rd (And.intro re (And.intro hcf (And.intro hck (And.intro hca hcx)))))))
      have Hncs := Lib.hid hnc'
      have hnc62 : nc < 9223372036854775807 ∧ nc ≤ cc i := by have : maxLen ≤ 9223372036854775807 := by decide
                                                              omega
      have hst' : ∀ wx : World, RowsFrom W wx g (i * 14) → StAt wx g (i * 14) x (.slice aa na ca') (.slice ab nb cb) (.slice ad nd cd) (.slice ae ne ce) (.slice (some ⟨gc i, 0, none⟩) nc (cc i)) := fun wx h => by
        obtain ⟨i0, i1, i2, i3, i4, i5, i6, i7, i8, i9, i10, i11, i12, i13⟩ := hst
        simp only [Nat.zero_add] at i0 i1 i2 i3 i4 i5 i6 i7 i8 i9 i10 i11 i12 i13
        exact ⟨h.cell _ _ (by omega) i0, h.cell _ _ (by omega) i1, h.cell _ _ (by omega) i2, h.cell _ _ (by omega) i3, h.cell _ _ (by omega) i4, h.cell _ _ (by omega) i5, h.cell _ _ (by omega) i6, h.cell _ _ (by omega) i7, h.cell _ _ (by omega) i8, h.cell _ _ (by omega) i9, h.cell _ _ (by omega) i10, h.cell _ _ (by omega) i11, h.cell _ _ (by omega) i12, h.cell _ _ (by omega) i13⟩
      have Hst := Lib.hid hst'
      have hrr := Hr.out.1 i hin
      have HLi : Hid (Like w0 wr (m i 0) (m i 5)) := by
        refine (HL.out.part hrr.1 hrr.2.2.2.2.2.2.1).oth HO.out fun k h1 h2 hS => ?_
        rcases hS with rfl | ⟨j, hj, h3⟩
        · exact hrr.2.2.2.2.2.2.2 ⟨h1, h2⟩
        · have := Hr.out.2 j i hj hin
          unfold In at h3
          omega
      have hgw : g < wr.heap.size := by omega
      have hng : ∀ t, t ≤ m i 5 → ∀ s, m i 0 ≤ s → ¬ In s t g := fun t h1 s h2 h3 => hrr.2.2.2.2.2.2.2 ⟨by unfold In at h3; omega, by unfold In at h3; omega⟩
      have Hng := Lib.hid hng
      clear hx hst hst' fa ra fb rb fd rd fe re hcf hck hca hcx hva hvb hvd hve hvc hna hnb hnd hne hnc' hng
      have hm := And.intro hrr.2.1 (And.intro hrr.2.2.1 (And.intro hrr.2.2.2.1 (And.intro hrr.2.2.2.2.1 hrr.2.2.2.2.2.1)))
      clear hrr
      obtain ⟨i0, i1, i2, i3, i4, i5, i6, i7, i8, i9, i10, i11, i12, i13⟩ := Hst.out wr HR.out
      clear i0 i1 i2 i3 i4 i5 i7 i8 i9 i10 i11 i12 i13
      go_wp2_with fail
      refine (HS.out.1 wr (HLi.out.part (Nat.le_refl _) (by omega))).mono ?_
      rintro E w5 ⟨rfl, hO5⟩
      clear i6
      have HR5 := Lib.hid (HR.out.oth hO5 hgw (Hng.out _ (by omega) _ (Nat.le_refl _)))
      have HO5 : Hid (Oth (In (m i 0) (m i 1)) wr w5) := hO5
      clear hO5
      obtain ⟨i0, i1, i2, i3, i4, i5, i6, i7, i8, i9, i10, i11, i12, i13⟩ := Hst.out w5 HR5.out
      clear i0 i1 i2 i3 i4 i5 i6 i7 i8 i9 i11 i12 i13
      go_wp2_with fail
      refine (HS.out.2.1 w5 ((HLi.out.part (lo' := m i 1) (hi' := m i 2) (by omega) (by omega)).oth HO5.out fun k h1 h2 h3 => by unfold In at h3; omega)).mono ?_
      rintro E w6 ⟨rfl, hO6⟩
      clear i10
      have HO6 : Hid (Oth (In (m i 0) (m i 2)) wr w6) := (HO5.out.imp fun k _ h => by unfold In at *; omega).trans (hO6.imp fun k _ h => by unfold In at *; omega)
      have HR6 := Lib.hid (HR.out.oth HO6.out hgw (Hng.out _ (by omega) _ (Nat.le_refl _)))
      clear hO6
      obtain ⟨i0, i1, i2, i3, i4, i5, i6, i7, i8, i9, i10, i11, i12, i13⟩ := Hst.out w6 HR6.out
      clear i0 i1 i2 i3 i4 i5 i6 i7 i8 i9 i10 i12 i13
      go_wp2_with fail
      refine (HS.out.2.2.1 w6 ((HLi.out.part (lo' := m i 2) (hi' := m i 3) (by omega) (by omega)).oth HO6.out fun k h1 h2 h3 => by unfold In at h3; omega)).mono ?_
      rintro E w7 ⟨rfl, hO7⟩
      clear i11
      have HO7 : Hid (Oth (In (m i 0) (m i 3)) wr w7) := (HO6.out.imp fun k _ h => by unfold In at *; omega).trans (hO7.imp fun k _ h => by unfold In at *; omega)
      have HR7 := Lib.hid (HR.out.oth HO7.out hgw (Hng.out _ (by omega) _ (Nat.le_refl _)))
      clear hO7
      obtain ⟨i0, i1, i2, i3, i4, i5, i6, i7, i8, i9, i10, i11, i12, i13⟩ := Hst.out w7 HR7.out
      clear i0 i1 i2 i3 i4 i5 i6 i7 i8 i9 i10 i11 i13
      go_wp2_with fail
      refine (HS.out.2.2.2.1 w7 ((HLi.out.part (lo' := m i 3) (hi' := m i 4) (by omega) (by omega)).oth HO7.out fun k h1 h2 h3 => by unfold In at h3; omega)).mono ?_
      rintro E w8 ⟨rfl, hO8⟩
      clear i12
      have HO8 : Hid (Oth (In (m i 0) (m i 4)) wr w8) := (HO7.out.imp fun k _ h => by unfold In at *; omega).trans (hO8.imp fun k _ h => by unfold In at *; omega)
      have HR8 := Lib.hid (HR.out.oth HO8.out hgw (Hng.out _ (by omega) _ (Nat.le_refl _)))
      have HL8 : Hid (Like w0 w8 (m i 4) (m i 5)) := (HLi.out.part (lo' := m i 4) (hi' := m i 5) (by omega) (Nat.le_refl _)).oth HO8.out fun k h1 h2 h3 => by unfold In at h3; omega
      clear hO8
      go_wp2_with fail
      obtain ⟨Wo, hWo⟩ : ∃ wo : World, wo = wr := ⟨_, rfl⟩
      subst hWo
      have hg8 : g < w8.heap.size ∧ gc i < w8.heap.size := by have := HO8.out.size; have := HL8.out.1; omega
      go_loopg [3] nc (fun gk kv wx => ∃ (k : Nat), gk = nc - k ∧ kv = .int .i64 (k : Int) ∧ k ≤ nc ∧ Oth (fun b => b = gc i ∨ ∃ q, q < k ∧ In (lk i q) (hk i q) b) w8 wx ∧ RowsFrom w8 wx (gc i) (k * 2))
      case atStart => exact ⟨0, rfl, rfl, Nat.zero_le _, Oth.refl _ _, RowsFrom.refl _ _ _⟩
      case round =>
        obtain ⟨k, hgk, rfl, hk', hO, hR⟩ := hrel
        have Hgk := Lib.hid hgk
        have HOk := Lib.hid hO
        have HRk := Lib.hid hR
        have hszk := hO.size
        have hck := HS.out.2.2.2.2.2.1
        have HSk : Hid (∀ b, b < w8.heap.size → (b = gc i ∨ ∃ q, q < k ∧ In (lk i q) (hk i q) b) → In (m i 4) (m i 5) b) := fun b _ h => by
          rcases h with rfl | ⟨q, hq, h3⟩
          · exact hgc
          · have := hck q (by omega)
            unfold In at *
            omega
        have HOw : Hid (Oth (In (m i 0) (m i 5)) Wo wr) := (HO8.out.imp fun k _ h => by unfold In at *; omega).trans (HOk.out.imp fun b hb h => by have := HSk.out b hb h; unfold In at *; omega)
        have HRw := Lib.hid (HR.out.oth HOw.out hgw (Hng.out _ (Nat.le_refl _) _ (Nat.le_refl _)))
        obtain ⟨i0, i1, i2, i3, i4, i5, i6, i7, i8, i9, i10, i11, i12, i13⟩ := Hst.out wr HRw.out
        clear i0 i1 i2 i3 i4 i5 i6 i7 i8 i9 i10 i11 i12 hgk hO hR
        by_cases hkn : k < nc
        · obtain ⟨y, hy⟩ : ∃ y, x.cases[k]? = some y := ⟨_, List.getElem?_eq_getElem (by rw [← Hncs.out]; exact hkn)⟩
          obtain ⟨f1, f2, f3⟩ := HS.out.2.2.2.2.2.2.2 k y hy
          obtain ⟨e0, e1⟩ := f1 w8 (HL8.out.2 _ hgc.1 hgc.2)
          have hfr8 := HS.out.2.2.2.2.1 w8 (HL8.out.2 _ hgc.1 hgc.2)
          simp only [Nat.zero_add] at e0 e1
          have e0' := HRk.out.cell _ _ (by omega) e0
          have e1' := HRk.out.cell _ _ (by omega) e1
          obtain ⟨ay, cy, hvs, -⟩ := f2.form
          have Hc3 := Lib.hid f3
          obtain ⟨ny, hny⟩ : ∃ n, n = y.body.length := ⟨_, rfl⟩
          rw [hvs, ← hny] at Hc3 e1'
          have hckk := hck k hkn
          have HLk : Hid (Like w0 wr (lk i k) (hk i k)) := by
            refine (HL8.out.part hckk.1 hckk.2.2.1).oth HOk.out fun b h1 h2 hS => ?_
            rcases hS with rfl | ⟨q, hq, h3⟩
            · exact hckk.2.2.2 ⟨h1, h2⟩
            · have := HS.out.2.2.2.2.2.2.1 q k hq hkn
              unfold In at h3
              omega
          have hgk2 : ¬ In (lk i k) (hk i k) (gc i) := hckk.2.2.2
          have hgk3 : ¬ In (lk i k) (hk i k) g := Hng.out _ (by omega) _ (by omega)
          have hgcw : gc i < wr.heap.size ∧ g < wr.heap.size := by omega
          have Hfr8 := Lib.hid hfr8
          clear f1 f2 f3 hy hvs hny e0 e1 hck hckk hfr8
          go_wp2_with fail
          refine (Hc3.out wr HLk.out).mono ?_
          rintro E w9 ⟨rfl, hO9⟩
          have HR9 := Lib.hid (HRk.out.oth hO9 hgcw.1 hgk2)
          have HO9 : Hid (Oth (fun b => b = gc i ∨ ∃ q, q < k + 1 ∧ In (lk i q) (hk i q) b) w8 w9) := by
            refine (HOk.out.imp fun b _ h => ?_).trans (hO9.imp fun b _ h => .inr ⟨k, Nat.lt_succ_self _, h⟩)
            rcases h with rfl | ⟨q, hq, h3⟩
            · exact .inl rfl
            · exact .inr ⟨q, by omega, h3⟩
          have e := fun j => hO9.cell (p := ⟨gc i, j, none⟩) hgcw.1 hgk2
          rw [← e] at e0' e1'
          rw [← hO9.cell (p := ⟨g, _, none⟩) hgcw.2 hgk3] at i13
          have f := fun j => (HR9.out.fr j).trans (Hfr8.out j)
          have f0 := f (k * 2)
          have f1 := f (k * 2 + 1)
          clear hO9 e f
          go_wp2_with fail
          go_roundg (nc - (k + 1))
          case measure => have := Hgk.out; omega
          case rel =>
            refine ⟨k + 1, rfl, by go_num, hkn, ?_, ?_⟩
            · exact (HO9.out.set (.inl rfl) _).set (.inl rfl) _
            · exact (HR9.out.set (o' := (k + 1) * 2) (by omega) (by omega) _).set (Nat.le_refl _) (by omega) _
        · obtain rfl : nc = k := by omega
          obtain ⟨j0, j1, j2, j3, j4, j5, j6, j7, j8, j9, j10, j11, j12, j13⟩ := Hst.out wr HRw.out
          have f := fun j => (HRw.out.fr j).trans (Hfr.out j)
          have f0 := f (i * 14)
          have f1 := f (i * 14 + 1)
          have f2 := f (i * 14 + 2)
          have f3 := f (i * 14 + 3)
          have f4 := f (i * 14 + 4)
          have f5 := f (i * 14 + 5)
          have f6 := f (i * 14 + 6)
          have f7 := f (i * 14 + 7)
          have f8 := f (i * 14 + 8)
          have f9 := f (i * 14 + 9)
          have f10 := f (i * 14 + 10)
          have f11 := f (i * 14 + 11)
          have f12 := f (i * 14 + 12)
          have f13 := f (i * 14 + 13)
          have HOf : Hid (Oth (fun k => k = g ∨ ∃ j, j < i + 1 ∧ In (m j 0) (m j 5) k) W wr) := by
            refine (HO.out.imp fun b _ h => ?_).trans (HOw.out.imp fun b _ h => .inr ⟨i, Nat.lt_succ_self _, h⟩)
            rcases h with rfl | ⟨q, hq, h3⟩
            · exact .inl rfl
            · exact .inr ⟨q, by omega, h3⟩
          clear f hck
          go_wp2_with fail
          go_roundg (n - (i + 1))
          case measure => have := Hg.out; omega
          case rel =>
            refine ⟨i + 1, rfl, by go_num, hin, ?_, ?_⟩
            · exact (((((((((((((HOf.out.set (.inl rfl) _).set (.inl rfl) _).set (.inl rfl) _).set (.inl rfl) _).set (.inl rfl) _).set (.inl rfl) _).set (.inl rfl) _).set (.inl rfl) _).set (.inl rfl) _).set (.inl rfl) _).set (.inl rfl) _).set (.inl rfl) _).set (.inl rfl) _).set (.inl rfl) _
            · exact (((((((((((((HRw.out.set (o' := (i + 1) * 14) (by omega) (by omega) _).set (Nat.le_refl _) (by omega) _).set (Nat.le_refl _) (by omega) _).set (Nat.le_refl _) (by omega) _).set (Nat.le_refl _) (by omega) _).set (Nat.le_refl _) (by omega) _).set (Nat.le_refl _) (by omega) _).set (Nat.le_refl _) (by omega) _).set (Nat.le_refl _) (by omega) _).set (Nat.le_refl _) (by omega) _).set (Nat.le_refl _) (by omega) _).set (Nat.le_refl _) (by omega) _).set (Nat.le_refl _) (by omega) _).set (Nat.le_refl _) (by omega) _
    · obtain rfl : n = i := by omega
      go_wp2_with fail
      refine bodyPost_end (results_none rfl _ _ _) rfl ?_
      refine ⟨rfl, HO.out.imp fun k _ h => ?_⟩
      rcases h with rfl | ⟨j, hj, h3⟩
      · exact hg
      · have := Hr.out.1 j hj
        unfold In at *
        omega
end Go.Proofs.Ytgcplcffejbniaa

namespace Go.Proofs.Ytgcplcffejbniaa
open Go.RowKit

set_option maxRecDepth 100000 in
set_option maxHeartbeats 4000000 in
theorem spoil_any (p : Pg) (v : Value) (lo : Nat) (w0 : World) (h : OwnsPg w0 lo p v) (W0 : World) (hB : Below w0.heap.size w0 W0) : Calls Try.prog 24 #[v] W0 (fun E W' => E = .returned (.tuple #[]) ∧ Oth (In lo w0.heap.size) W0 W') := by
  obtain ⟨mid, gw, cw, g, cap, vp, vb, q, m0, m1, gp, cp, rfl, hcw, hcap, ho⟩ := h
  obtain ⟨x1, x2, x3, x4⟩ := ownsRow_spare ho.widen (by simp [intVs])
  obtain ⟨y1, y2, y3, y4⟩ := ownsRow_spare ho.fns.own (rowsOf_len _ (fnRow_len p.funcs vp vb))
  obtain ⟨m, hm⟩ : ∃ m, m = p.widen.length := ⟨_, rfl⟩
  obtain ⟨n, hn⟩ : ∃ n, n = p.funcs.length := ⟨_, rfl⟩
  have Hlen := Lib.hid (And.intro hm hn)
  obtain ⟨B, hBe⟩ : ∃ B, B = W0.heap.size := ⟨_, rfl⟩
  obtain ⟨W, hWa⟩ : ∃ w : World, w = W0.alloc (.cells #[.slice (some ⟨gw, 0, none⟩) m cw, .slice (some ⟨g, 0, none⟩) n cap] 26) := ⟨_, rfl⟩
  have hba : Below W0.heap.size W0 W := by rw [hWa]; exact (Below.refl _ _).alloc (Nat.le_refl _) _
  have hza : W.heap.size = B + 1 := by rw [hWa, hBe]; simp
  have hbx : W.cell? ⟨B, 0, none⟩ = some (.slice (some ⟨gw, 0, none⟩) m cw) ∧ W.cell? ⟨B, 1, none⟩ = some (.slice (some ⟨g, 0, none⟩) n cap) := by
    rw [hWa, hBe]
    exact ⟨World.cell?_alloc_at _ _ _ _ rfl, World.cell?_alloc_at _ _ _ _ rfl⟩
  have hBW : Below w0.heap.size w0 W := hB.trans (hba.mono hB.size)
  have ownw := ownsRow_at ho.widen (hBW.block gw x3)
  have ownf := ownsRow_at ho.fns.own (hBW.block g y3)
  have Hw : Hid ((∀ i x, p.widen[i]? = some x → W.cell? ⟨gw, i, none⟩ = some (.int .i64 x)) ∧ ∀ j, W.frozen? ⟨gw, j, none⟩ = false) := by
    refine ⟨fun i x hx => ?_, World.ownsRow.frozenAt ownw⟩
    have h := World.ownsRow.cells ownw (g := gw) rfl i (.int .i64 x) (by
      rw [List.getElem?_append_left (by simp [intVs]; exact (List.getElem?_eq_some_iff.1 hx).1)]
      simp [intVs, hx])
    have ha : (⟨gw, 0, none⟩ : Addr).add i = ⟨gw, i, none⟩ := by unfold Addr.add; split <;> simp_all
    rw [← ha]; exact h
  have Hrow : Hid ((∀ i, i < n → ∀ x, p.funcs[i]? = some x → ∀ (j : Nat) u, j < 3 → ([.string x.name, vp i, vb i] : List Value)[j]? = some u → W.cell? ⟨g, i * 3 + j, none⟩ = some u) ∧ ∀ j, W.frozen? ⟨g, j, none⟩ = false) := by
    refine ⟨fun i hi x hx j u hj hu => ?_, World.ownsRow.frozenAt ownf⟩
    obtain ⟨_, _, _, k4⟩ := ownsRow_rowOf ownf (fnRow_len p.funcs vp vb)
    exact k4 i j u (by omega) hj (by rw [fnRow_at hx]; exact hu)
  have Hf : Hid (∀ (i : Nat) x, p.funcs[i]? = some x → (vp i = .slice (some ⟨gp i, 0, none⟩) x.params.length (cp i) ∧ (x.params.length + 1 ≤ cp i ∧ cp i ≤ maxLen)) ∧ (mid ≤ q i ∧ q i ≤ gp i ∧ gp i < m0 i ∧ m0 i ≤ m1 i ∧ m1 i ≤ w0.heap.size ∧ ¬ (q i ≤ g ∧ g < m1 i)) ∧
      (∀ w : World, w.heap[gp i]? = w0.heap[gp i]? → (∀ j, w.frozen? ⟨gp i, j, none⟩ = false) ∧ ∀ (k : Nat) y, x.params[k]? = some y → PmAt w (gp i) (k * 3) y) ∧ StsIn w0 x.body (vb i) ∧ RSpoilS w0 (m0 i) (m1 i) (vb i)) := fun i x hx => by
    have hi := (List.getElem?_eq_some_iff.1 hx).1
    have e := ho.fns.each i x hi hx
    obtain ⟨k1, k2, k3, k4⟩ := ownsRow_spare e.own (rowsOf_len _ (pmRow_len x.params))
    have o := e.ord
    have r := ho.fns.rng i hi
    refine ⟨⟨e.vp, k1, k2⟩, ⟨r.1, o.1, o.2.1, o.2.2, r.2.1, r.2.2⟩, fun w hw => ?_, e.body.reads, spoilS_any _ _ _ _ _ e.body⟩
    have ow := ownsRow_at e.own hw
    refine ⟨World.ownsRow.frozenAt ow, fun k y hy => ?_⟩
    obtain ⟨_, _, _, k4⟩ := ownsRow_rowOf ow (pmRow_len x.params)
    have kk : ∀ (j : Nat) u, j < 3 → ([.string y.name, .int .i64 y.lo, .int .i64 y.hi] : List Value)[j]? = some u → w.cell? ⟨gp i, k * 3 + j, none⟩ = some u := fun j u hj hu => k4 k j u (List.getElem?_eq_some_iff.1 hy).1 hj (by rw [pmRow_at hy]; exact hu)
    exact ⟨kk 0 _ (by decide) rfl, kk 1 _ (by decide) rfl, kk 2 _ (by decide) rfl⟩
  have Hap : Hid (∀ j k, j < k → k < n → m1 j ≤ q k) := by rw [hn]; exact ho.fns.apart
  have hw := ho.hw
  have hg := ho.fns.hg
  have hs0 := hBW.size
  have HBW := Lib.hid hBW
  have hBs : w0.heap.size ≤ B := by have := hB.size; omega
  have hlo : lo ≤ W0.heap.size := by have := hB.size; omega
  rw [← hm] at x1 ⊢
  rw [← hn] at y1 ⊢
  have hm62 : m < 9223372036854775807 ∧ n < 9223372036854775807 := by have : maxLen ≤ 9223372036854775807 := by decide
                                                                      omega
  obtain ⟨hm62, hn62⟩ := hm62
  have hmn : m ≤ cw ∧ n ≤ cap := by omega
  have Hba := Lib.hid (And.intro hba (And.intro hza hbx))
  have HWa := Lib.hid (And.intro hWa hBe)
  have hBl : B < W.heap.size := by omega
  obtain ⟨c0, c1⟩ := hbx
  unfold pgV
  clear x2 x4 y2 y4 ho hm hn hB hWa hBe hba hza hcw hcap ownw ownf hBW
  go_enter Try.func24, Try.ntmps24
  go_upto_region 1 with (fail)
  rw [← HWa.out.1, ← HWa.out.2]
  go_wp2_with fail
  clear c0 c1
  go_loopg [2] m (fun gk iv wx => ∃ (i : Nat), gk = m - i ∧ iv = .int .i64 (i : Int) ∧ i ≤ m ∧ Oth (· = gw) W wx ∧ RowsFrom W wx gw i)
  case atStart => exact ⟨0, rfl, rfl, Nat.zero_le _, Oth.refl _ _, RowsFrom.refl _ _ _⟩
  case round =>
    obtain ⟨i, hgk, rfl, hi, hO, hR⟩ := hrel
    have Hg := Lib.hid hgk
    have HO := Lib.hid hO
    have HR := Lib.hid hR
    have hsz := hO.size
    have kc := fun j => hO.cell (p := ⟨B, j, none⟩) hBl (by show ¬ B = gw; omega)
    obtain ⟨c0, c1⟩ := Hba.out.2.2
    rw [← kc] at c0 c1
    clear hgk hO hR kc
    by_cases hin : i < m
    · obtain ⟨y, hy⟩ : ∃ y, p.widen[i]? = some y := ⟨_, List.getElem?_eq_getElem (by rw [← Hlen.out.1]; exact hin)⟩
      have e0 := HR.out.cell i _ (Nat.le_refl _) (Hw.out.1 i y hy)
      have f0 := (HR.out.fr i).trans (Hw.out.2 i)
      clear hy c1
      go_wp2_with fail
      go_roundg (m - (i + 1))
      case measure => have := Hg.out; omega
      case rel => exact ⟨i + 1, rfl, by go_num, hin, HO.out.set rfl _, HR.out.set (Nat.le_succ _) (Nat.lt_succ_self _) _⟩
    · obtain rfl : m = i := by omega
      obtain ⟨W1, hW1⟩ : ∃ w1 : World, w1 = wr := ⟨_, rfl⟩
      subst hW1
      have hg1 : g < W1.heap.size := by omega
      have HR1 : Hid (RowsFrom W W1 g 0) := (RowsFrom.refl W g 0).oth HO.out (by omega) (by show ¬ g = gw; omega)
      clear hin hi Hg
      go_wp2_with fail
      clear c0 c1
      go_loopg [3] n (fun gk iv wx => ∃ (i : Nat), gk = n - i ∧ iv = .int .i64 (i : Int) ∧ i ≤ n ∧ Oth (fun k => k = g ∨ ∃ j, j < i ∧ In (q j) (m1 j) k) W1 wx ∧ RowsFrom W1 wx g (i * 3))
      case atStart => exact ⟨0, rfl, rfl, Nat.zero_le _, Oth.refl _ _, RowsFrom.refl _ _ _⟩
      case round =>
        clear HR
        obtain ⟨i, hgk, rfl, hi, hO2, hR2⟩ := hrel
        have Hg := Lib.hid hgk
        have HO2 := Lib.hid hO2
        have HR2 := Lib.hid hR2
        have hsz2 := hO2.size
        have Hnb : Hid (∀ k, w0.heap.size ≤ k → ¬ (k = g ∨ ∃ j, j < i ∧ In (q j) (m1 j) k)) := fun k h1 h2 => by
          rcases h2 with rfl | ⟨j, hj, h3⟩
          · omega
          · have hx := List.getElem?_eq_getElem (show j < p.funcs.length by rw [← Hlen.out.2]; omega)
            have := (Hf.out j _ hx).2.1
            unfold In at h3
            omega
        have kc := fun j => (hO2.cell (p := ⟨B, j, none⟩) (by show B < _; omega) (Hnb.out B hBs)).trans (HO.out.cell (p := ⟨B, j, none⟩) hBl (by show ¬ B = gw; omega))
        obtain ⟨c0, c1⟩ := Hba.out.2.2
        rw [← kc] at c0 c1
        clear hgk hO2 hR2 kc c0
        by_cases hin : i < n
        · obtain ⟨x, hx⟩ : ∃ x, p.funcs[i]? = some x := ⟨_, List.getElem?_eq_getElem (by rw [← Hlen.out.2]; exact hin)⟩
          obtain ⟨⟨hvp, k1, k2⟩, hr, hpw, hfb, hrb⟩ := Hf.out i x hx
          have k := fun j u hj hu => HR2.out.cell (i * 3 + j) u (by omega) (HR1.out.cell _ _ (Nat.zero_le _) (Hrow.out.1 i hin x hx j u hj hu))
          have i0 := k 0 _ (by decide) rfl
          have i1 := k 1 _ (by decide) rfl
          have i2 := k 2 _ (by decide) rfl
          obtain ⟨ab, cb, hvb, -⟩ := hfb.form
          obtain ⟨np, hnp⟩ : ∃ n, n = x.params.length := ⟨_, rfl⟩
          obtain ⟨nb, hnb⟩ : ∃ n, n = x.body.length := ⟨_, rfl⟩
          rw [hvp, ← hnp] at i1
          rw [hvb, ← hnb] at i2 hrb
          rw [← hnp] at k1
          simp only [Nat.add_zero] at i0
          have hnp62 : np < 9223372036854775807 ∧ np ≤ cp i := by have : maxLen ≤ 9223372036854775807 := by decide
                                                                  omega
          have HLi : Hid (Like w0 wr (q i) (m1 i)) := by
            refine ⟨by omega, fun b h1 h2 => ?_⟩
            refine (HO2.out.block b (by omega) fun hS => ?_).trans ((HO.out.block b (by omega) (by show ¬ b = gw; omega)).trans (HBW.out.block b (by omega)))
            rcases hS with rfl | ⟨j, hj, h3⟩
            · exact hr.2.2.2.2.2 ⟨h1, h2⟩
            · have := Hap.out j i hj hin
              unfold In at h3
              omega
          have HC := Lib.hid (And.intro hrb (And.intro hpw hnp))
          have hgi : ¬ In (q i) (m1 i) g := hr.2.2.2.2.2
          have hgw2 : g < wr.heap.size ∧ B < wr.heap.size ∧ gp i < wr.heap.size := by omega
          have hqm := And.intro hr.1 (And.intro hr.2.1 (And.intro hr.2.2.1 (And.intro hr.2.2.2.1 hr.2.2.2.2.1)))
          clear hx hvp hvb hnp hnb k hpw hfb hrb hr i0
          go_wp2_with fail
          clear i2
          refine (HC.out.1 wr (HLi.out.part (by omega) (Nat.le_refl _))).mono ?_
          rintro E w5 ⟨rfl, hO5⟩
          have HO5 := Lib.hid hO5
          have hB5 : ¬ In (m0 i) (m1 i) B := fun h => by unfold In at h; omega
          have hg5 : ¬ In (m0 i) (m1 i) g := fun h => hgi (by unfold In at *; omega)
          have hp5 : ¬ In (m0 i) (m1 i) (gp i) := fun h => by unfold In at h; omega
          rw [← hO5.cell (p := ⟨B, 1, none⟩) hgw2.2.1 hB5] at c1
          rw [← hO5.cell (p := ⟨g, _, none⟩) hgw2.1 hg5] at i1
          have HR5 := Lib.hid (HR2.out.oth hO5 hgw2.1 hg5)
          have hz5 := hO5.size
          have hpw := HC.out.2.1 w5 ((hO5.block (gp i) hgw2.2.2 hp5).trans (HLi.out.2 _ (by omega) (by omega)))
          have Hpw := Lib.hid hpw
          have Hc := Lib.hid (And.intro c1 i1)
          clear hO5 hpw
          go_wp2_with fail
          clear c1 i1
          obtain ⟨Wo, hWo⟩ : ∃ wo : World, wo = wr := ⟨_, rfl⟩
          subst hWo
          go_loopg [4] np (fun gk kv wx => ∃ (k : Nat), gk = np - k ∧ kv = .int .i64 (k : Int) ∧ k ≤ np ∧ Oth (· = gp i) w5 wx ∧ RowsFrom w5 wx (gp i) (k * 3))
          case atStart => exact ⟨0, rfl, rfl, Nat.zero_le _, Oth.refl _ _, RowsFrom.refl _ _ _⟩
          case round =>
            obtain ⟨k, hgk, rfl, hk', hO6, hR6⟩ := hrel
            have Hgk := Lib.hid hgk
            have HO6 := Lib.hid hO6
            have HR6 := Lib.hid hR6
            have hz6 := hO6.size
            have hgpi : gp i ≠ g := fun e => hgi (by rw [← e]; unfold In; omega)
            obtain ⟨c1, i1⟩ := Hc.out
            rw [← hO6.cell (p := ⟨B, 1, none⟩) (by show B < _; omega) (by show ¬ B = gp i; omega)] at c1
            rw [← hO6.cell (p := ⟨g, _, none⟩) (by show g < _; omega) (by show ¬ g = gp i; exact fun e => hgpi e.symm)] at i1
            have HRg : Hid (RowsFrom W1 wr g (i * 3)) := HR5.out.oth hO6 (by omega) (by show ¬ g = gp i; exact fun e => hgpi e.symm)
            clear hgk hO6 hR6
            by_cases hkn : k < np
            · obtain ⟨y, hy⟩ : ∃ y, x.params[k]? = some y := ⟨_, List.getElem?_eq_getElem (by rw [← HC.out.2.2]; exact hkn)⟩
              obtain ⟨e0, e1, e2⟩ := Hpw.out.2 k y hy
              have e0' := HR6.out.cell _ _ (by omega) e0
              have e1' := HR6.out.cell _ _ (by omega) e1
              have e2' := HR6.out.cell _ _ (by omega) e2
              have f := fun j => (HR6.out.fr j).trans (Hpw.out.1 j)
              have f0 := f (k * 3)
              have f1 := f (k * 3 + 1)
              have f2 := f (k * 3 + 2)
              clear hy e0 e1 e2 f
              go_wp2_with fail
              go_roundg (np - (k + 1))
              case measure => have := Hgk.out; omega
              case rel =>
                refine ⟨k + 1, rfl, by go_num, hkn, ?_, ?_⟩
                · exact ((HO6.out.set rfl _).set rfl _).set rfl _
                · exact ((HR6.out.set (o' := (k + 1) * 3) (by omega) (by omega) _).set (Nat.le_refl _) (by omega) _).set (Nat.le_refl _) (by omega) _
            · obtain rfl : np = k := by omega
              have hx := List.getElem?_eq_getElem (show i < p.funcs.length by rw [← Hlen.out.2]; exact hin)
              have k := fun j u hj hu => HRg.out.cell (i * 3 + j) u (by omega) (HR1.out.cell _ _ (Nat.zero_le _) (Hrow.out.1 i hin _ hx j u hj hu))
              have j0 := k 0 _ (by decide) rfl
              have j2 := k 2 _ (by decide) rfl
              have f := fun j => (HRg.out.fr j).trans ((HR1.out.fr j).trans (Hrow.out.2 j))
              have f0 := f (i * 3)
              have f1 := f (i * 3 + 1)
              have f2 := f (i * 3 + 2)
              simp only [Nat.add_zero] at j0
              have HOf : Hid (Oth (fun k => k = g ∨ ∃ j, j < i + 1 ∧ In (q j) (m1 j) k) W1 wr) := by
                refine ((HO2.out.imp fun b _ h => ?_).trans (HO5.out.imp fun b _ h => .inr ⟨i, Nat.lt_succ_self _, by unfold In at *; omega⟩)).trans (HO6.out.imp fun b _ h => .inr ⟨i, Nat.lt_succ_self _, by subst h; unfold In; omega⟩)
                rcases h with rfl | ⟨q, hq, h3⟩
                · exact .inl rfl
                · exact .inr ⟨q, by omega, h3⟩
              clear f k hx
              go_wp2_with fail
              go_roundg (n - (i + 1))
              case measure => have := Hg.out; omega
              case rel =>
                refine ⟨i + 1, rfl, by go_num, hin, ?_, ?_⟩
                · exact ((HOf.out.set (.inl rfl) _).set (.inl rfl) _).set (.inl rfl) _
                · exact ((HRg.out.set (o' := (i + 1) * 3) (by omega) (by omega) _).set (Nat.le_refl _) (by omega) _).set (Nat.le_refl _) (by omega) _
        · obtain rfl : n = i := by omega
          go_wp2_with fail
          refine bodyPost_end (results_none rfl _ _ _) rfl ?_
          refine ⟨rfl, ?_⟩
          have h1 : Oth (In lo w0.heap.size) W W1 := HO.out.imp fun k _ e => by unfold In; omega
          refine (Oth.of_below Hba.out.1).trans (h1.trans (HO2.out.imp fun k _ h => ?_))
          rcases h with rfl | ⟨j, hj, h3⟩
          · unfold In; omega
          · have hx := List.getElem?_eq_getElem (show j < p.funcs.length by rw [← Hlen.out.2]; exact hj)
            have := (Hf.out j _ hx).2.1
            unfold In at *
            omega
end Go.Proofs.Ytgcplcffejbniaa
