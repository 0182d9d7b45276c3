/- names.Check: which name is used wrongly first. -/
import Derived.Test.YtgobcldecokppaaDoorNmAll
namespace Go.Proofs.YtgobcldecokppaaDoor
open Go.RowKit Go.Maps

/-- A function that has a body is entered. -/
theorem enter_run {P : Program} {f : FuncId} {fn : Func} {c : Code} (hf : P.funcs[f]? = some fn) (hname : (fn.name == "runtime.NumGoroutine") = false) (hb : fn.body = some c) (args : Array Value) (w : World) : (callFunc f args).run P w = .ok (.enter f args) w := by
  have h1 : fn.name ≠ "runtime.NumGoroutine" := by simpa using hname
  simp [callFunc, hf, h1, hb]
theorem ncheck_told_enter (args : Array Value) (w : World) : (callFunc 26 args).run Tryd.prog w = .ok (.enter 26 args) w := enter_run Tryd.func26 (by kernel_rfl) (c := _) (by rfl) args w
theorem ncheck_told_any (i : Int) (v : Value) (W : World) : Calls Tryd.prog 26 #[.int .i64 i, v] W (fun e W' => e = .returned (.tuple #[]) ∧ W = W') := by
  go_enter Tryd.func26, Tryd.ntmps26
  go_wp2_with fail
  refine bodyPost_end (results_none rfl _ _ _) rfl ?_
  exact ⟨rfl, rfl⟩
theorem ncheck_told (p : Pg) (W : World) : Told p W 26 #[] (fun _ => False) (fun _ _ _ => True) :=
  ⟨ncheck_told_enter, fun _ _ _ _ => trivial, fun _ _ _ _ _ _ _ _ _ => trivial, fun _ _ _ _ _ _ _ _ _ _ _ _ _ _ => (ncheck_told_any _ _ _).mono fun _ _ h => ⟨h.1, by rw [← h.2]; exact Oth.refl _ _, trivial⟩⟩
set_option maxRecDepth 100000 in
theorem ncheck_any (p : Pg) (vw vf : Value) (vp vb : Nat → Value) (W : World) (h : PgIn W p vw vf vp vb) : Calls Tryd.prog 12 #[pgV vw vf] W (Gives (fltV p.nfault) W) := by
  obtain ⟨aw, cw, rfl, -⟩ := h.widen.row.form
  obtain ⟨a, cap, rfl, -⟩ := h.funcs.row.form
  obtain ⟨n, hn⟩ : ∃ n, n = p.funcs.length := ⟨_, rfl⟩
  obtain ⟨m, hm⟩ : ∃ m, m = p.widen.length := ⟨_, rfl⟩
  rw [← hn, ← hm] at h
  rw [← hn, ← hm]
  have HP := Lib.hid h
  have Hl := Lib.hid (And.intro hm hn)
  obtain ⟨W1, hW1⟩ : ∃ W1, W1 = (W.alloc (.cells #[.slice aw m cw, .slice a n cap] 25)).alloc (.cells #[.int .i64 0, .int .i64 0, .int .i64 0] 32) := ⟨_, rfl⟩
  have hs1 : W1.heap.size = W.heap.size + 2 := by rw [hW1]; simp
  have hb1 : Below W.heap.size W W1 := by rw [hW1]; exact ((Below.refl _ _).alloc (Nat.le_refl _) _).alloc (by (try simp only [World.size_alloc]); (try simp only [size_set]); omega) _
  have hk1 : CkAt W1 W.heap.size (.slice aw m cw) (.slice a n cap) := by
    have q : (W.alloc (.cells #[.slice aw m cw, .slice a n cap] 25)).heap.size = W.heap.size + 1 := by simp
    have k : ∀ j, (((W.alloc (.cells #[.slice aw m cw, .slice a n cap] 25)).alloc (.cells #[.int .i64 0, .int .i64 0, .int .i64 0] 32)).cell? ⟨W.heap.size, j, none⟩) = (W.alloc (.cells #[.slice aw m cw, .slice a n cap] 25)).cell? ⟨W.heap.size, j, none⟩ :=
      fun j => ((Below.refl _ _).alloc (Nat.le_refl _) _).cell (p := ⟨W.heap.size, j, none⟩) (by show W.heap.size < _; omega)
    rw [hW1]
    exact ⟨(k 0).trans (World.cell?_alloc_at _ _ _ _ rfl), (k 1).trans (World.cell?_alloc_at _ _ _ _ rfl), World.cell?_alloc_at _ _ _ _ (by rw [q]), World.cell?_alloc_at _ _ _ _ (by rw [q]), World.cell?_alloc_at _ _ _ _ (by rw [q]),
      World.frozen?_alloc_at _ _ _ _ (by rw [q]), World.frozen?_alloc_at _ _ _ _ (by rw [q]), World.frozen?_alloc_at _ _ _ _ (by rw [q])⟩
  have HW1 := Lib.hid hW1
  obtain ⟨B, hB⟩ : ∃ B, B = W.heap.size := ⟨_, rfl⟩
  have HB := Lib.hid hB
  have hBW : W.heap.size ≤ B := by omega
  unfold pgV
  rw [← hB] at hk1
  have H1 := Lib.hid (And.intro hb1 hk1)
  clear h hn hm hW1 hB hb1 hs1
  go_enter Tryd.func12, Tryd.ntmps12
  go_upto_region 1 with (fail)
  rw [← HW1.out, ← HB.out]
  obtain ⟨c0, c1, r0, r1, r2, z0, z1, z2⟩ := hk1
  go_wp2_with fail
  refine (nall_any p (.slice aw m cw) (.slice a n cap) vp vb W W1 26 #[] (fun _ => False) (fun _ _ _ => True) HP.out H1.out.1 (fun _ h => h.elim) (ncheck_told p W1)).mono ?_
  rintro e w2 ⟨rfl, hO2, -⟩
  have hb2 : Below W1.heap.size W1 w2 := hO2.below (Nat.le_refl _) fun _ h => h.elim
  have HK2 := Lib.hid (H1.out.2.later hb2)
  have HB2 := Lib.hid (H1.out.1.trans (hb2.mono H1.out.1.size))
  obtain ⟨t0, ht0⟩ : ∃ t, t = p.nfault := ⟨_, rfl⟩
  rw [← ht0]
  have Ht0 := Lib.hid ht0
  obtain ⟨ea, eb, ec⟩ := t0
  unfold fltV
  clear hO2 hb2 c0 c1 r0 r1 r2 z0 z1 z2 ht0
  obtain ⟨c0, c1, r0, r1, r2, z0, z1, z2⟩ := HK2.out
  go_wp2_with fail
  obtain ⟨w9, hw9⟩ : ∃ w9, w9 = ((w2.setCell ⟨B + 1, 0, none⟩ (.int .i64 ea)).setCell ⟨B + 1, 1, none⟩ (.int .i64 eb)).setCell ⟨B + 1, 2, none⟩ (.int .i64 ec) := ⟨_, rfl⟩
  rw [← hw9]
  obtain ⟨e0, e1, e2, hO9⟩ := HK2.out.answer (ea, eb, ec) w9 hw9
  have HO9 := Lib.hid hO9
  clear hw9 hO9 c0 c1 r0 r1 r2 z0 z1 z2
  dsimp only at e0 e1 e2
  refine bodyPost_ret (by simp [results, Tryd.results12, go_sem, e0, e1, e2]; try rfl) rfl ?_
  exact ⟨by rw [← Ht0.out]; rfl, HB2.out.trans (HO9.out.below (HB2.out.size) fun _ e => by have := HB.out; omega)⟩
end Go.Proofs.YtgobcldecokppaaDoor
