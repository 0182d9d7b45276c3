/- gen: a loop. -/
import Derived.Test.YtgobcldecokppaaDoorGnCas
namespace Go.Proofs.YtgobcldecokppaaDoor
open Go.RowKit Go.Maps

/-- A maker's list of what waits becomes another one. -/
theorem MkAt.reP {w w4 : World} {B : Nat} {m : Mk} {F : ByteArray → Int} {N : Nat} {s : GS} (h : MkAt w B m F N s) (hO : Oth (fun k => m.pv.ownBlock = some k) w w4) {pv : Value} {l : List Nat} (hp : PatAt (w4.setCell ⟨m.b, 5, none⟩ pv) { m with pv := pv } B pv l) (hpin : ∀ p ∈ l, p < s.code.length)
    (happ : ∀ k, pv.ownBlock = some k → k ≠ m.f ∧ k ≠ m.v ∧ k ≠ m.b ∧ m.cv.ownBlock ≠ some k) :
    (w4.cell? ⟨m.b, 5, none⟩ = some m.pv ∧ w4.frozen? ⟨m.b, 5, none⟩ = false) ∧ MkAt (w4.setCell ⟨m.b, 5, none⟩ pv) B { m with pv := pv } F N { s with pats := l } := by
  have q := h.in
  have hnb : ¬ m.pv.ownBlock = some m.b := fun e => (h.app _ e).2.2 rfl
  have hO2 : Oth (fun j => j = m.b ∨ m.pv.ownBlock = some j) w (w4.setCell ⟨m.b, 5, none⟩ pv) := (Oth.imp (T := fun j => j = m.b ∨ m.pv.ownBlock = some j) hO fun k _ e => Or.inr e).set (p := ⟨m.b, 5, none⟩) (.inl rfl) _
  have d : ∀ j, w4.cell? ⟨m.b, j, none⟩ = w.cell? ⟨m.b, j, none⟩ := fun j => hO.cell (p := ⟨m.b, j, none⟩) q hnb
  have ne : ∀ j, j ≠ 5 → (w4.setCell ⟨m.b, 5, none⟩ pv).cell? ⟨m.b, j, none⟩ = w.cell? ⟨m.b, j, none⟩ := fun j hj => (World.cell?_setCell_other _ _ _ _ (by intro e; injection e with e1 e2; exact hj e2.symm)).trans (d j)
  have f4 : ∀ j, w4.frozen? ⟨m.b, j, none⟩ = false := fun j => (hO.frozen (p := ⟨m.b, j, none⟩) q hnb).trans (h.fr j)
  obtain ⟨S, hS⟩ := h.funcs
  obtain ⟨S2, hS2, hn⟩ := h.vars
  have hk : ∀ k, k < w.heap.size → k ≠ m.b → m.pv.ownBlock ≠ some k → (w4.setCell ⟨m.b, 5, none⟩ pv).heap[k]? = w.heap[k]? := fun k hk e1 e2 => hO2.block k hk (by rintro (e | e); exact e1 e; exact e2 e)
  refine ⟨⟨(d 5).trans h.c5, f4 5⟩, (ne 0 (by omega)).trans h.c0, (ne 1 (by omega)).trans h.c1, (ne 2 (by omega)).trans h.c2, (ne 3 (by omega)).trans h.c3, (ne 4 (by omega)).trans h.c4, World.cell?_setCell_same' _ _ _ (by rw [d 5, h.c5]; rfl), fun j => (World.frozen?_setCell _ _ _ _).trans (f4 j), owns_at_block h.code fun k e => hk k (h.inT k (.inr (.inr (.inl e)))) (h.apc k e).2.2.1 (h.apc k e).2.2.2, ⟨S, hS.at_block (hk _ hS.lt h.ne.2.1 fun e => (h.app _ e).1 rfl)⟩, ⟨S2, hS2.at_block (hk _ hS2.lt h.ne.2.2 fun e => (h.app _ e).2.1 rfl), hn⟩, hp, hpin, h.lo, h.ne, fun k e => ⟨(h.apc k e).1, (h.apc k e).2.1, (h.apc k e).2.2.1, fun e2 => (happ k e2).2.2.2 e⟩, fun k e => ⟨(happ k e).1, (happ k e).2.1, (happ k e).2.2.1⟩, h.vreg⟩
theorem GStep.setP {W w : World} {m0 m : Mk} (h : GStep W m0 w m) (pv : Value) (hn : ∀ k, k < W.heap.size → pv.ownBlock = some k → m0.T k) : GStep W m0 (w.setCell ⟨m.b, 5, none⟩ pv) { m with pv := pv } :=
  ⟨h.oth.set (p := ⟨m.b, 5, none⟩) (by rw [h.b]; exact .inl rfl) _, h.b, h.f, h.v, fun k hk e => by
    rcases e with e | e | e | e
    · exact h.new k hk (.inl e)
    · exact h.new k hk (.inr (.inl e))
    · exact h.new k hk (.inr (.inr (.inl e)))
    · exact hn k hk e⟩
/-- A new list of one closure. -/
theorem MkAt.newP {w : World} {B : Nat} {m : Mk} {F : ByteArray → Int} {N : Nat} {s : GS} (h : MkAt w B m F N s) (hB : B ≤ w.heap.size) {fv : Value} {p : Nat} (hl : Later w m fv p) (hp : p < s.code.length) :
    (((w.alloc (.cells #[fv] 1)).cell? ⟨m.b, 5, none⟩ = some m.pv ∧ (w.alloc (.cells #[fv] 1)).frozen? ⟨m.b, 5, none⟩ = false) ∧ MkAt ((w.alloc (.cells #[fv] 1)).setCell ⟨m.b, 5, none⟩ (.slice (some ⟨w.heap.size, 0, none⟩) 1 1)) B { m with pv := .slice (some ⟨w.heap.size, 0, none⟩) 1 1 } F N { s with pats := [p] }) ∧
      GStep w m ((w.alloc (.cells #[fv] 1)).setCell ⟨m.b, 5, none⟩ (.slice (some ⟨w.heap.size, 0, none⟩) 1 1)) { m with pv := .slice (some ⟨w.heap.size, 0, none⟩) 1 1 } ∧
      (∀ k, k < w.heap.size → k ≠ m.b → ((w.alloc (.cells #[fv] 1)).setCell ⟨m.b, 5, none⟩ (.slice (some ⟨w.heap.size, 0, none⟩) 1 1)).heap[k]? = w.heap[k]?) ∧ ∀ k, m.pv.ownBlock = some k → ¬ Mk.T { m with pv := .slice (some ⟨w.heap.size, 0, none⟩) 1 1 } k := by
  have hb : Below w.heap.size w (w.alloc (.cells #[fv] 1)) := (Below.refl _ _).alloc (Nat.le_refl _) _
  have hG : GStep w m ((w.alloc (.cells #[fv] 1)).setCell ⟨m.b, 5, none⟩ (.slice (some ⟨w.heap.size, 0, none⟩) 1 1)) { m with pv := .slice (some ⟨w.heap.size, 0, none⟩) 1 1 } := (GStep.of_below m hb).setP _ fun k hk e => by have e : w.heap.size = k := Option.some.inj e; omega
  have q := h.in
  refine ⟨(h.later hb).reP (Oth.refl _ _) ⟨[fv], ?_, fun i j hij => ?_⟩ (fun j hj => by simp at hj; subst hj; exact hp) (fun k e => ?_), hG, fun k hk e => ?_, fun k e => ?_⟩
  · exact ownsRow_setCell_other (owns_new w 1 [fv] hB rfl (by decide)) (fun e => by
      have e' : w.heap.size = m.b := Option.some.inj e
      omega) _
  · cases i with
    | zero => simp at hij; subst hij; exact ⟨fv, rfl, hl.step hG⟩
    | succ i => simp at hij
  · obtain rfl : w.heap.size = k := Option.some.inj e
    obtain ⟨S, hS⟩ := h.funcs
    obtain ⟨S2, hS2, _⟩ := h.vars
    exact ⟨fun (e : w.heap.size = m.f) => by have := hS.lt; omega, fun (e : w.heap.size = m.v) => by have := hS2.lt; omega, fun (e : w.heap.size = m.b) => by omega, fun e => by have := h.inT _ (.inr (.inr (.inl e))); omega⟩
  · have h4 : Oth (· = m.b) w ((w.alloc (.cells #[fv] 1)).setCell ⟨m.b, 5, none⟩ (.slice (some ⟨w.heap.size, 0, none⟩) 1 1)) := (Oth.of_below (S := (· = m.b)) hb).set (p := ⟨m.b, 5, none⟩) rfl _
    exact h4.block k hk e
  · have e0 := h.app k e
    rintro (e2 | e2 | e2 | e2)
    · exact e0.2.2 e2
    · exact e0.2.1 e2
    · exact (h.apc k e2).2.2.2 e
    · have e3 : w.heap.size = k := Option.some.inj e2
      have := h.inT _ (.inr (.inr (.inr e))); omega
/-- The list that stood before is put back. -/
theorem MkAt.backP {w2 w3 w : World} {B : Nat} {m2 m3 m : Mk} {F : ByteArray → Int} {N N2 : Nat} {s s2 : GS} (h2 : MkAt w2 B m2 F N2 s2) (h23 : GStep w2 m2 w3 m3) (h23b : ∀ k, k < w2.heap.size → k ≠ m2.b → w3.heap[k]? = w2.heap[k]?) (h3 : ∀ k, m2.pv.ownBlock = some k → ¬ m3.T k) (hG : GStep w3 m3 w m) (h : MkAt w B m F N s) (hlen : s2.code.length ≤ s.code.length) :
    (w.cell? ⟨m.b, 5, none⟩ = some m.pv ∧ w.frozen? ⟨m.b, 5, none⟩ = false) ∧ MkAt (w.setCell ⟨m.b, 5, none⟩ m2.pv) B { m with pv := m2.pv } F N { s with pats := s2.pats } ∧ GStep w2 m2 (w.setCell ⟨m.b, 5, none⟩ m2.pv) { m with pv := m2.pv } := by
  have hS : GStep w2 m2 (w.setCell ⟨m.b, 5, none⟩ m2.pv) { m with pv := m2.pv } := (h23.trans hG).setP _ fun k _ e => .inr (.inr (.inr e))
  have hbb : m.b = m2.b := (h23.trans hG).b
  have hq : ∀ k, m2.pv.ownBlock = some k → k < w2.heap.size := fun k e => h2.inT k (.inr (.inr (.inr e)))
  have hT : ∀ k, m2.pv.ownBlock = some k → ¬ m.T k := fun k e => (hG.block (Nat.lt_of_lt_of_le (hq k e) h23.oth.size) (h3 k e)).2
  have h1 := h.reP (Oth.refl _ _) (pv := m2.pv) (l := s2.pats) (h2.pats.keep hS fun k e => ?_) (fun p hp => Nat.lt_of_lt_of_le (h2.pin p hp) hlen) (fun k e => ?_)
  · exact ⟨h1.1, h1.2, hS⟩
  · have e1 : k ≠ m.b := fun e2 => hT k e (.inl e2)
    have h4 := (Oth.refl (· = m.b) w).set (p := ⟨m.b, 5, none⟩) rfl m2.pv
    exact (h4.block k (Nat.lt_of_lt_of_le (hq k e) (h23.trans hG).oth.size) e1).trans ((hG.block (Nat.lt_of_lt_of_le (hq k e) h23.oth.size) (h3 k e)).1.trans (h23b k (hq k e) (by rw [← hbb]; exact e1)))
  · have e0 := h2.app k e
    exact ⟨by rw [(h23.trans hG).f]; exact e0.1, fun e2 => hT k e (.inr (.inl e2)), fun e2 => hT k e (.inl e2), fun e2 => hT k e (.inr (.inr (.inl e2)))⟩
/-- delete, within a region that draws its order. -/
theorem pm_del_wp {o : Oper} {a : Act} {Kc : Act → World → Prop} {Q : Exit → Act → World → Prop} {w : World} (m x : Operand) (hop : o.op = Op.call { callee := Callee.builtin Builtin.delete, args := #[m, x], argTypes := #[62, 9] }) (b : Nat) (S : List ByteArray) (V : GEnv) (hm : a.eval m = .map (some b)) (hown : PMap w b S V) (y : ByteArray) (hx : a.eval x = .string y)
    (hs : y.size ≤ maxLen) (hK : ∀ w', PMap w' b (S.filter fun i => decide (i ≠ y)) (V.put y noPlc) → Oth (· = b) w w' → Kc (a.put o.dst (.tuple #[])) w') : o.wp Tryd.prog a w Kc Q := by
  obtain ⟨D, h, hn, hsz0, hh, hF⟩ := hown
  obtain ⟨w', hrun, h1, h2⟩ := h.drop Tryd.strKey Tryd.underlying62 (WideMaps.keyOf_string_mk Tryd.underlying9 hs) o.type
  have h1 : w'.ownsMap Tryd.prog 9 plcD b S.length (D.del (keyS y)) := h1
  have hmem : ∀ kl, Maps.has (D.del (keyS y)) kl = true ↔ ∃ x ∈ S.filter (fun i => decide (i ≠ y)), kl = keyS x := by
    intro kl
    rw [hasS_del, hh]
    constructor
    · rintro ⟨hne, x, hx, rfl⟩
      exact ⟨x, List.mem_filter.2 ⟨hx, decide_eq_true (fun e => hne (by rw [e]))⟩, rfl⟩
    · rintro ⟨x, hx, rfl⟩
      obtain ⟨h1, h2⟩ := List.mem_filter.1 hx
      exact ⟨fun e => (of_decide_eq_true h2) (keyS_inj e), x, h1, rfl⟩
  have hsz : Maps.size (D.del (keyS y)) = (S.filter fun i => decide (i ≠ y)).length := by
    have h3 := size_del (k := keyS y) (h.tidy Tryd.strKey)
    rw [hsz0] at h3
    by_cases hy : y ∈ S
    · rw [if_pos ((hh _).2 ⟨y, hy, rfl⟩)] at h3
      have h5 := filter_len hn hy
      omega
    · rw [if_neg (fun h => hy (by obtain ⟨z, hz, e⟩ := (hh _).1 h; rw [keyS_inj e]; exact hz))] at h3
      have h5 : S.filter (fun i => decide (i ≠ y)) = S := List.filter_eq_self.2 fun a ha => decide_eq_true (fun e => hy (e ▸ ha))
      rw [h5]; omega
  have hK' := hK w' ⟨D.del (keyS y), by rw [← hsz]; exact owns_tight h1, hn.filter _, hsz, hmem, fun u => by
    unfold GEnv.put
    by_cases e : u = y
    · subst e; simp only [if_true]; exact atKey_del_same _
    · simp only [if_neg e]; rw [atKey_del_other (fun e1 => e (keyS_inj e1))]; exact hF u⟩ (.of_turned h2)
  unfold Oper.wp
  simp [execOp, hop, resolve, invoke, builtin, hm, hx, hrun, Result.andThen]
  exact hK'
/-- What a loop lays down. -/
def loopO (F : ByteArray → Int) (x : St) (s : GS) (t : Int) : GS :=
  let ca := x.a.gn s.V F s.code.length t
  let cb := x.b.gn s.V F (s.code.length + ca.length) (t + 1)
  let s1 := s.add (ca ++ cb)
  let s2 : GS := { s1.add [⟨17, t, t + 1, 0, 0⟩] with V := s.V.put x.name ⟨t, 0, 0⟩, pats := [s1.code.length] }
  let s3 := s2.out (St.gns F x.body s2.V s2.words s2.code.length (t + 2) [])
  let s4 := GS.add { s3 with V := s3.V.put x.name noPlc } [⟨18, t, 0, 0, (s1.code.length : Int)⟩]
  { s4.leads s4.pats with pats := s.pats }
theorem gn_for {F : ByteArray → Int} {x : St} (hk : x.kind = 7) (s : GS) (t : Int) : s.out (St.gn F x s.V s.words s.code.length t) = loopO F x s t := by
  rw [St.gn_eq]
  obtain ⟨ca, hca⟩ : ∃ ca, ca = x.a.gn s.V F s.code.length t := ⟨_, rfl⟩
  obtain ⟨cb, hcb⟩ : ∃ cb, cb = x.b.gn s.V F (s.code.length + ca.length) (t + 1) := ⟨_, rfl⟩
  obtain ⟨hd, hhd⟩ : ∃ hd, hd = s.code.length + ca.length + cb.length := ⟨_, rfl⟩
  obtain ⟨o, ho⟩ : ∃ o, o = St.gns F x.body (s.V.put x.name ⟨t, 0, 0⟩) s.words (hd + 1) (t + 2) [] := ⟨_, rfl⟩
  have hin : ∀ j ∈ o.brk, hd + 1 ≤ j ∧ j < hd + 1 + o.code.length := fun j hj => by rw [ho] at hj ⊢; exact St.gns_brk_in F _ _ _ _ _ _ _ hj
  have hl1 : (s.add (ca ++ cb)).code.length = hd := by rw [GS.add_len, List.length_append, hhd]; omega
  have hl2 : ((s.add (ca ++ cb)).add [⟨17, t, t + 1, 0, 0⟩]).code.length = hd + 1 := by rw [GS.add_len, hl1]; rfl
  unfold loopO
  simp only [gnSt, hk, ← hca, ← hcb, ← hhd, hl1, hl2]
  simp only [show ((s.add (ca ++ cb)).add [⟨17, t, t + 1, 0, 0⟩]).words = s.words from rfl, ← ho, if_true]
  simp only [GS.leads, GS.out, GS.add]
  have hc : s.code ++ (ca ++ cb) ++ [(⟨17, t, t + 1, 0, 0⟩ : Ins)] ++ o.code ++ [⟨18, t, 0, 0, (hd : Int)⟩] = (s.code ++ (ca ++ cb)) ++ (⟨17, t, t + 1, 0, 0⟩ : Ins) :: (o.code ++ [⟨18, t, 0, 0, (hd : Int)⟩]) := by simp
  have hlc : (s.code ++ (ca ++ cb)).length = hd := hl1
  have hle : ((s.code ++ (ca ++ cb)) ++ (⟨17, t, t + 1, 0, 0⟩ : Ins) :: (o.code ++ [⟨18, t, 0, 0, (hd : Int)⟩])).length = hd + 1 + o.code.length + 1 := by
    rw [List.length_append, hlc]; simp; omega
  have hpt : patchAt ((s.code ++ (ca ++ cb)) ++ (⟨17, t, t + 1, 0, 0⟩ : Ins) :: (o.code ++ [⟨18, t, 0, 0, (hd : Int)⟩])) 0 ([hd] ++ o.brk) ((hd + 1 + o.code.length + 1 : Nat) : Int) = (s.code ++ (ca ++ cb)) ++ [(⟨17, t, t + 1, 0, ((hd + 1 + o.code.length + 1 : Nat) : Int)⟩ : Ins)] ++ (patchAt o.code (hd + 1) o.brk ((hd + 1 + o.code.length + 1 : Nat) : Int) ++ [⟨18, t, 0, 0, (hd : Int)⟩]) := by
    have h1 : ∀ (l : List Ins) (v : Int), patchAt l 0 ([hd] ++ o.brk) v = patchAt (l.modify hd fun x => { x with n := v }) 0 o.brk v := fun l v => by simp [patchAt]
    rw [h1]
    have h2 := getE_mid (s.code ++ (ca ++ cb)) (o.code ++ [⟨18, t, 0, 0, (hd : Int)⟩]) ⟨17, t, t + 1, 0, 0⟩ (fun x => { x with n := ((hd + 1 + o.code.length + 1 : Nat) : Int) })
    rw [hlc] at h2
    rw [h2, show ∀ (A C : List Ins) (x : Ins), A ++ x :: C = (A ++ [x]) ++ C from fun A C x => by simp]
    rw [patch_right _ 0 _ o.brk _ (fun j hj => by rw [List.length_append, hlc]; have := hin j hj; simp; omega)]
    rw [show 0 + ((s.code ++ (ca ++ cb)) ++ [(⟨17, t, t + 1, 0, ((hd + 1 + o.code.length + 1 : Nat) : Int)⟩ : Ins)]).length = hd + 1 by rw [List.length_append, hlc]; simp]
    rw [patch_left _ _ _ o.brk _ (fun j hj => by have := hin j hj; omega)]
  rw [hc, hle, hpt]
  congr 1
  · simp
  · simp only [regsOf, List.foldl_append, List.foldl_cons, List.foldl_nil]
    have h1 := fun r => regsOf_patch (hd + 1) ((hd + 1 + o.code.length + 1 : Nat) : Int) r o.brk o.code
    simp only [regsOf] at h1
    rw [h1]
  · simp
/-- What a loop lays down, its parts being given. -/
theorem loopO_eq {F : ByteArray → Int} {x : St} {s : GS} {t : Int} (ca cb : List Ins) (hd : Nat) (o : GOut) (hca : ca = x.a.gn s.V F s.code.length t) (hcb : cb = x.b.gn s.V F (s.code.length + ca.length) (t + 1)) (hhd : hd = s.code.length + ca.length + cb.length) (ho : o = St.gns F x.body (s.V.put x.name ⟨t, 0, 0⟩) s.words (hd + 1) (t + 2) []) :
    loopO F x s t = { (GS.add { ({ (s.add (ca ++ cb)).add [⟨17, t, t + 1, 0, 0⟩] with V := s.V.put x.name ⟨t, 0, 0⟩, pats := [hd] } : GS).out o with V := o.V.put x.name noPlc } [⟨18, t, 0, 0, (hd : Int)⟩]).leads ([hd] ++ o.brk) with pats := s.pats } := by
  have hl1 : (s.add (ca ++ cb)).code.length = hd := by rw [GS.add_len, List.length_append, hhd]; omega
  have hl2 : ((s.add (ca ++ cb)).add [⟨17, t, t + 1, 0, 0⟩]).code.length = hd + 1 := by rw [GS.add_len, hl1]; rfl
  unfold loopO
  simp only [← hca, ← hcb, hl1, hl2]
  simp only [show ((s.add (ca ++ cb)).add [⟨17, t, t + 1, 0, 0⟩]).words = s.words from rfl, ← ho]
  rfl
set_option maxRecDepth 100000 in
set_option maxHeartbeats 8000000 in
theorem loop_any (x : St) (hs : x.name.size ≤ 16) (aa ab ad ae ac : Option Addr) (na nb nd ne nc ca' cb' cd ce cc : Nat) (w0 : World) (hza : 1 ≤ x.a.part) (hzb : 1 ≤ x.b.part) (ha : GxFor w0 x.a (.slice aa na ca')) (hb : GxFor w0 x.b (.slice ab nb cb')) (hdy : GlFor w0 x.body (.slice ad nd cd))
    (W : World) (B : Nat) (m : Mk) (F : ByteArray → Int) (N : Nat) (s : GS) (t : Int) (hB : Below w0.heap.size w0 W) (hwB : w0.heap.size ≤ B) (h : MkAt W B m F N s) (ht0 : 0 ≤ t) (ht : t + (x.total : Int) ≤ 1000000) (hN : N + x.total ≤ 1000000000) (hl : (loopO F x s t).code.length ≤ 999999999000) :
    Calls Tryd.prog 35 #[ptrV m.b, stVal x (.slice aa na ca') (.slice ab nb cb') (.slice ad nd cd) (.slice ae ne ce) (.slice ac nc cc), .int .i64 t] W (fun E W' => E = .returned (.tuple #[]) ∧ ∃ m', MkAt W' B m' F (N + x.total) (loopO F x s t) ∧ GStep W m W' m') := by
  obtain ⟨ca, hca⟩ : ∃ ca, ca = x.a.gn s.V F s.code.length t := ⟨_, rfl⟩
  obtain ⟨cb, hcb⟩ : ∃ cb, cb = x.b.gn s.V F (s.code.length + ca.length) (t + 1) := ⟨_, rfl⟩
  obtain ⟨hd, hhd⟩ : ∃ hd, hd = s.code.length + ca.length + cb.length := ⟨_, rfl⟩
  obtain ⟨o, ho⟩ : ∃ o, o = St.gns F x.body (s.V.put x.name ⟨t, 0, 0⟩) s.words (hd + 1) (t + 2) [] := ⟨_, rfl⟩
  have hlo := loopO_eq ca cb hd o hca hcb hhd ho
  have hll : hd + 1 + o.code.length + 1 ≤ 999999999000 := by
    rw [hlo] at hl
    have h1 : ({ (GS.add { ({ (s.add (ca ++ cb)).add [⟨17, t, t + 1, 0, 0⟩] with V := s.V.put x.name ⟨t, 0, 0⟩, pats := [hd] } : GS).out o with V := o.V.put x.name noPlc } [⟨18, t, 0, 0, (hd : Int)⟩]).leads ([hd] ++ o.brk) with pats := s.pats } : GS).code.length = hd + 1 + o.code.length + 1 := by
      show (GS.leads _ _).code.length = _
      rw [leads_len, GS.add_len]
      show (GS.out _ _).code.length + _ = _
      rw [GS.out_len]
      show (GS.add _ _).code.length + _ + _ = _
      rw [GS.add_len, GS.add_len, List.length_append, hhd]
      simp only [List.length_cons, List.length_nil]
      omega
    rw [h1] at hl
    exact hl
  have hbk : o.brk.length ≤ St.totals x.body := by rw [ho]; exact St.gns_brk F _ _ _ _ _ _
  rw [hlo]
  obtain ⟨X, hX⟩ : ∃ X, X = W.heap.size := ⟨_, rfl⟩
  obtain ⟨W1, hW1⟩ : ∃ W1, W1 = W.alloc (.cells #[.int .i64 x.kind, .string x.name, .int .i64 x.n, .int .i64 x.a.kind, .int .i64 x.a.n, .string x.a.name, .slice aa na ca', .int .i64 x.b.kind, .int .i64 x.b.n, .string x.b.name, .slice ab nb cb', .slice ad nd cd, .slice ae ne ce, .slice ac nc cc] 56) := ⟨_, rfl⟩
  have hb1 : Below W.heap.size W W1 := by rw [hW1]; exact (Below.refl _ _).alloc (Nat.le_refl _) _
  have xa1 : W1.cell? ⟨X, 1, none⟩ = some (.string x.name) := by rw [hW1, hX]; exact World.cell?_alloc_at _ _ _ _ rfl
  have xa3 : W1.cell? ⟨X, 3, none⟩ = some (.int .i64 x.a.kind) := by rw [hW1, hX]; exact World.cell?_alloc_at _ _ _ _ rfl
  have xa4 : W1.cell? ⟨X, 4, none⟩ = some (.int .i64 x.a.n) := by rw [hW1, hX]; exact World.cell?_alloc_at _ _ _ _ rfl
  have xa5 : W1.cell? ⟨X, 5, none⟩ = some (.string x.a.name) := by rw [hW1, hX]; exact World.cell?_alloc_at _ _ _ _ rfl
  have xa6 : W1.cell? ⟨X, 6, none⟩ = some (.slice aa na ca') := by rw [hW1, hX]; exact World.cell?_alloc_at _ _ _ _ rfl
  have xa7 : W1.cell? ⟨X, 7, none⟩ = some (.int .i64 x.b.kind) := by rw [hW1, hX]; exact World.cell?_alloc_at _ _ _ _ rfl
  have xa8 : W1.cell? ⟨X, 8, none⟩ = some (.int .i64 x.b.n) := by rw [hW1, hX]; exact World.cell?_alloc_at _ _ _ _ rfl
  have xa9 : W1.cell? ⟨X, 9, none⟩ = some (.string x.b.name) := by rw [hW1, hX]; exact World.cell?_alloc_at _ _ _ _ rfl
  have xa10 : W1.cell? ⟨X, 10, none⟩ = some (.slice ab nb cb') := by rw [hW1, hX]; exact World.cell?_alloc_at _ _ _ _ rfl
  have xa11 : W1.cell? ⟨X, 11, none⟩ = some (.slice ad nd cd) := by rw [hW1, hX]; exact World.cell?_alloc_at _ _ _ _ rfl
  have qX := block_lt_of_cell xa1
  have HmT : Hid (¬ m.T X) := fun e => by have := h.inT X e; omega
  have HB1 : Hid (Below w0.heap.size w0 W1) := hB.trans (hb1.mono hB.size)
  have htx := x.total_eq
  have hpa := x.a.total_part
  have hpb := x.b.total_part
  have hwt1 : wrap64 (t + 1) = t + 1 := by unfold wrap64; omega
  have hwt2 : wrap64 (t + 2) = t + 2 := by unfold wrap64; omega
  have hsz : x.name.size ≤ maxLen := by unfold maxLen; omega
  have H1 := Lib.hid (h.later hb1)
  have HW := Lib.hid (And.intro hW1 (And.intro hX hb1))
  have Hmlo := Lib.hid h.low
  have Hw := Lib.hid hwB
  have Ht := Lib.hid (show (0 ≤ t ∧ t + (x.a.total : Int) ≤ 1000000) ∧ t + 1 + (x.b.total : Int) ≤ 1000000 ∧ t + 2 + (St.totals x.body : Int) ≤ 1000000 ∧ t ≤ 1000000 by omega)
  have Hn := Lib.hid (show N + 1 + St.totals x.body ≤ N + x.total ∧ N + 1 + St.totals x.body ≤ 1000000000 ∧ 1 + St.totals x.body ≤ 1000000000 by omega)
  have Hl := Lib.hid (And.intro hll (And.intro hhd hbk))
  have Hc := Lib.hid (And.intro hca (And.intro hcb ho))
  have Hf := Lib.hid (And.intro ha (And.intro hb hdy))
  have HBs := Lib.hid (Nat.le_of_lt (Nat.lt_of_le_of_lt h.lo.2.2 h.in))
  have qb := h.in
  clear hB hwB h ht0 ht hN hl hX hW1 hb1 htx hpa hpb hs hza hzb ha hb hdy hca hcb hhd ho hlo hll hbk
  unfold stVal
  go_enter Tryd.func35, Tryd.ntmps35
  go_upto_region 1 with (fail)
  rw [← HW.out.1, ← HW.out.2.1]
  go_wp2_with fail
  have hp := Hf.out.1 W1 B m F N s t HB1.out Hw.out H1.out Ht.out.1.1 Ht.out.1.2 (by rw [← Hc.out.1]; have := Hl.out.1; have := Hl.out.2.1; omega)
  rw [← Hc.out.1] at hp
  unfold exVal at hp
  refine hp.mono ?_
  rintro E w2 ⟨rfl, m2, hM2, hG2⟩
  clear hp
  have xb1 := (hG2.cell (p := ⟨X, 1, none⟩) qX HmT.out).trans xa1
  have xb7 := (hG2.cell (p := ⟨X, 7, none⟩) qX HmT.out).trans xa7
  have xb8 := (hG2.cell (p := ⟨X, 8, none⟩) qX HmT.out).trans xa8
  have xb9 := (hG2.cell (p := ⟨X, 9, none⟩) qX HmT.out).trans xa9
  have xb10 := (hG2.cell (p := ⟨X, 10, none⟩) qX HmT.out).trans xa10
  have xb11 := (hG2.cell (p := ⟨X, 11, none⟩) qX HmT.out).trans xa11
  have HX2 := Lib.hid (And.intro (hG2.block qX HmT.out).2 (Nat.lt_of_lt_of_le qX hG2.oth.size))
  have H2 := Lib.hid (And.intro hM2 hG2)
  have HB2 : Hid (Below w0.heap.size w0 w2) := hG2.below HB1.out fun k e => Nat.le_trans Hw.out (Hmlo.out k e)
  clear hM2 hG2 xa1 xa3 xa4 xa5 xa6 xa7 xa8 xa9 xa10 xa11
  go_wp2_with fail
  have hp := Hf.out.2.1 w2 B m2 F N (s.add ca) (t + 1) HB2.out Hw.out H2.out.1 (by have := Ht.out.1.1; omega) Ht.out.2.1 (by rw [GS.add_len, show (s.add ca).V = s.V from rfl, ← Hc.out.2.1]; have := Hl.out.1; have := Hl.out.2.1; omega)
  rw [H2.out.2.b, GS.add_len, show (s.add ca).V = s.V from rfl, ← Hc.out.2.1, GS.add_add] at hp
  unfold exVal at hp
  refine hp.mono ?_
  rintro E w3 ⟨rfl, m3, hM3, hG3⟩
  clear hp
  have xc1 := (hG3.cell (p := ⟨X, 1, none⟩) HX2.out.2 HX2.out.1).trans xb1
  have xc11 := (hG3.cell (p := ⟨X, 11, none⟩) HX2.out.2 HX2.out.1).trans xb11
  have HX3 := Lib.hid (And.intro (hG3.block HX2.out.2 HX2.out.1).2 (Nat.lt_of_lt_of_le HX2.out.2 hG3.oth.size))
  have hl1 : (s.add (ca ++ cb)).code.length = hd := by rw [GS.add_len, List.length_append, Hl.out.2.1]; omega
  obtain ⟨s1, hs1⟩ : ∃ s1, s1 = s.add (ca ++ cb) := ⟨_, rfl⟩
  rw [← hs1] at hM3 hl1
  have Hs1 := Lib.hid (And.intro hl1 (And.intro (show s1.V = s.V by rw [hs1]; rfl) (And.intro (show s1.words = s.words by rw [hs1]; rfl) (And.intro (show s1.pats = s.pats by rw [hs1]; rfl) hs1))))
  obtain ⟨a0, n0, k0, hcv⟩ := row_shape hM3.code
  have hn0 : n0 = hd := by
    have h1 := hM3.code.1
    rcases hM3.code.2 with ⟨e, e0⟩ | ⟨g, c2, cur, e, _⟩ <;> rw [hcv] at e <;> cases e <;> omega
  have c0 := hM3.c0
  have c5 := hM3.c5
  rw [hG3.b, H2.out.2.b] at c0 c5
  rw [hcv] at c0
  have H3 := Lib.hid (And.intro hM3 (H2.out.2.trans hG3))
  have HB3 : Hid (Below w0.heap.size w0 w3) := H3.out.2.below HB1.out fun k e => Nat.le_trans Hw.out (Hmlo.out k e)
  have HBs3 : Hid (B ≤ w3.heap.size) := Nat.le_trans HBs.out (Nat.le_trans HW.out.2.2.size H3.out.2.oth.size)
  subst hn0
  have hwd : wrap64 (n0 : Int) = (n0 : Int) := by have := Hl.out.1; unfold wrap64; omega
  clear hM3 hG3 xb1 xb7 xb8 xb9 xb10 xb11 hl1 hs1 hcv
  unfold ptrV at *
  go_wp2_with fail
  have hp := later_anyP 17 t (t + 1) (by have := Ht.out; omega) w3 B m3 F N s1 H3.out.1 (by rw [Hs1.out.1]; have := Hl.out.1; omega)
  rw [H3.out.2.b, Hs1.out.1] at hp
  unfold ptrV at hp
  refine hp.mono ?_
  rintro E w4 ⟨fv, rfl, m4, hM4, hG4, hl4, hpv4⟩
  obtain ⟨bm, ba, rfl, hlt⟩ := hl4
  have hl4 : Later w4 m4 (.func (.func 44) #[] #[.pointer (some ⟨bm, 0, none⟩), .pointer (some ⟨ba, 0, none⟩)]) n0 := ⟨bm, ba, rfl, hlt⟩
  unfold laterV
  clear hp c0 c5 hlt
  have xd1 := (hG4.cell (p := ⟨X, 1, none⟩) HX3.out.2 HX3.out.1).trans xc1
  have xd11 := (hG4.cell (p := ⟨X, 11, none⟩) HX3.out.2 HX3.out.1).trans xc11
  have HX4 := Lib.hid (And.intro (hG4.block HX3.out.2 HX3.out.1).2 (Nat.lt_of_lt_of_le HX3.out.2 hG4.oth.size))
  obtain ⟨oa, on, ok, hov⟩ : ∃ a n c, m4.pv = .slice a n c := by obtain ⟨fvs, h1, _⟩ := hM4.pats; exact row_shape h1
  rw [← hpv4, hov]
  have Hov := Lib.hid hov
  have HP := hM4.newP (Nat.le_trans HBs3.out hG4.oth.size) hl4 (by rw [GS.add_len, Hs1.out.1]; simp)
  have y5 := HP.1.1.1
  have y5f := HP.1.1.2
  rw [hG4.b, H3.out.2.b] at y5 y5f
  obtain ⟨P, hP⟩ : ∃ P, P = w4.heap.size := ⟨_, rfl⟩
  rw [← hP] at HP
  obtain ⟨W5, hW5⟩ : ∃ W5, W5 = w4.alloc (.cells #[.func (.func 44) #[] #[.pointer (some ⟨bm, 0, none⟩), .pointer (some ⟨ba, 0, none⟩)]] 1) := ⟨_, rfl⟩
  rw [← hW5] at HP
  obtain ⟨W6, hW6⟩ : ∃ W6, W6 = W5.setCell ⟨m.b, 5, none⟩ (.slice (some ⟨P, 0, none⟩) 1 1) := ⟨_, rfl⟩
  have hbb : m4.b = m.b := hG4.b.trans H3.out.2.b
  rw [hbb, ← hW6, ← hbb] at HP
  obtain ⟨m6, hm6⟩ : ∃ m6, m6 = ({ m4 with pv := .slice (some ⟨P, 0, none⟩) 1 1 } : Mk) := ⟨_, rfl⟩
  rw [← hm6] at HP
  have H4 := Lib.hid (And.intro hM4 (And.intro (H3.out.2.trans hG4) HP))
  have HW5 := Lib.hid (And.intro hW5 (And.intro hP hW6))
  have HX6 := Lib.hid (And.intro (HP.2.1.block HX4.out.2 HX4.out.1).2 (Nat.lt_of_lt_of_le HX4.out.2 HP.2.1.oth.size))
  have xe1 := (HP.2.1.cell (p := ⟨X, 1, none⟩) HX4.out.2 HX4.out.1).trans xd1
  have xe11 := (HP.2.1.cell (p := ⟨X, 11, none⟩) HX4.out.2 HX4.out.1).trans xd11
  have Hbb : Hid (m6.b = m.b) := HP.2.1.b.trans hbb
  clear hov hM4 hG4 hl4 hpv4 HP hP hW5 hW6 hbb hm6 xc1 xc11 xd1 xd11
  go_upto_region 6 with (fail)
  rw [← HW5.out.1, ← HW5.out.2.1, ← HW5.out.2.2]
  clear y5 y5f
  have Hq := Lib.hid (And.intro xe1 xe11)
  refine wp_region_heldZ (S := fun w => w.cell? ⟨m.b, 2, none⟩ = some (.map (some m6.v)) ∧ w.cell? ⟨X, 1, none⟩ = some (.string x.name)) (z := 8) rfl ?_
  change wpAnyZ _ _ _ _ _ _ _ _ _ W6.drew
  obtain ⟨W0, hW0⟩ : ∃ W0, W0 = W6.drew := ⟨_, rfl⟩
  rw [← hW0]
  have hb0 : Below W6.heap.size W6 W0 := by rw [hW0]; exact (Below.refl _ _).drew
  have HM0 := Lib.hid (And.intro (H4.out.2.2.1.2.later hb0) (And.intro hb0 (And.intro ((hb0.cell (p := ⟨X, 1, none⟩) HX6.out.2).trans Hq.out.1) ((hb0.cell (p := ⟨X, 11, none⟩) HX6.out.2).trans Hq.out.2))))
  have Hb0 : Hid (W0.cell? ⟨m.b, 2, none⟩ = some (.map (some m6.v)) ∧ W0.cell? ⟨X, 1, none⟩ = some (.string x.name)) := ⟨by have h1 := HM0.out.1.c2; rw [Hbb.out] at h1; exact h1, HM0.out.2.2.1⟩
  clear hb0 hW0 xe1 xe11
  refine wpAnyZ_take (i := 0) (by simp only [List.getElem?_toArray, List.getElem?_cons_zero]; rfl) (by kernel_rfl) (by kernel_rfl) (by kernel_rfl) (by kernel_rfl) (by intro _ _ _ h; exact h) (Or.inl ⟨by rfl, fun w hw => by (obtain ⟨k0, k1⟩ := hw; go_simp; try rfl)⟩) Hb0.out ?_
  refine wpAnyZ_take (i := 1) (by simp only [List.getElem?_toArray, List.getElem?_cons_succ, List.getElem?_cons_zero]; rfl) (by kernel_rfl) (by kernel_rfl) (by kernel_rfl) (by kernel_rfl) (by intro _ _ _ h; exact h) (Or.inl ⟨by rfl, fun w hw => by (obtain ⟨k0, k1⟩ := hw; go_simp; try rfl)⟩) Hb0.out ?_
  go_frame
  refine wpAnyZ_take (i := 2) (by simp only [List.getElem?_toArray, List.getElem?_cons_succ, List.getElem?_cons_zero]; rfl) (by kernel_rfl) (by kernel_rfl) (by kernel_rfl) (by kernel_rfl) (by intro _ _ _ h; exact h) (Or.inl ⟨by rfl, fun w hw => by (obtain ⟨k0, k1⟩ := hw; go_simp; try rfl)⟩) Hb0.out ?_
  refine wpAnyZ_take (i := 3) (by simp only [List.getElem?_toArray, List.getElem?_cons_succ, List.getElem?_cons_zero]; rfl) (by kernel_rfl) (by kernel_rfl) (by kernel_rfl) (by kernel_rfl) (by intro _ _ _ h; exact h) (Or.inl ⟨by rfl, fun w hw => by (obtain ⟨k0, k1⟩ := hw; go_simp; try rfl)⟩) Hb0.out ?_
  go_frame
  refine wpAnyZ_take (i := 4) (by simp only [List.getElem?_toArray, List.getElem?_cons_succ, List.getElem?_cons_zero]; rfl) (by kernel_rfl) (by kernel_rfl) (by kernel_rfl) (by kernel_rfl) (by intro _ _ _ h; exact h) (Or.inl ⟨by rfl, fun w hw => by (obtain ⟨k0, k1⟩ := hw; go_simp; try rfl)⟩) Hb0.out ?_
  refine wpAnyZ_take (i := 5) (by simp only [List.getElem?_toArray, List.getElem?_cons_succ, List.getElem?_cons_zero]; rfl) (by kernel_rfl) (by kernel_rfl) (by kernel_rfl) (by kernel_rfl) (by intro _ _ _ h; exact h) (Or.inl ⟨by rfl, fun w hw => by (obtain ⟨k0, k1⟩ := hw; go_simp; try rfl)⟩) Hb0.out ?_
  go_frame
  refine wpAnyZ_take (i := 6) (by simp only [List.getElem?_toArray, List.getElem?_cons_succ, List.getElem?_cons_zero]; rfl) (by kernel_rfl) (by kernel_rfl) (by kernel_rfl) (by kernel_rfl) (by intro _ _ _ h; exact h) (Or.inl ⟨by rfl, fun w hw => by (obtain ⟨k0, k1⟩ := hw; go_simp; try rfl)⟩) Hb0.out ?_
  refine wpAnyZ_take (i := 7) (by simp only [List.getElem?_toArray, List.getElem?_cons_succ, List.getElem?_cons_zero]; rfl) (by kernel_rfl) (by kernel_rfl) (by kernel_rfl) (by kernel_rfl) (by intro _ _ _ h; exact h) (Or.inl ⟨by rfl, fun w hw => by (obtain ⟨k0, k1⟩ := hw; go_simp; try rfl)⟩) Hb0.out ?_
  go_frame
  refine wpAnyZ_next (i := 8) (by kernel_rfl) (by simp only [List.getElem?_toArray, List.getElem?_cons_succ, List.getElem?_cons_zero]; rfl) (fun Kc hKc => ?_)
  obtain ⟨S, hS, hSn⟩ := HM0.out.1.vars
  obtain ⟨w7, hrun, hp7, hO7⟩ := hS.put (by have := Hn.out.2.1; omega) x.name hsz ⟨t, 0, 0⟩
  have hM7 := HM0.out.1.putV hO7 hp7 (N' := N + 1) (by have := insS_len S x.name; omega) (fun z => by
    unfold GEnv.put
    split
    · have := Ht.out; show 0 ≤ t ∧ t ≤ 1000000000000; omega
    · exact HM0.out.1.vreg z)
  have xf1 := (hM7.2.cell (p := ⟨X, 1, none⟩) (Nat.lt_of_lt_of_le HX6.out.2 HM0.out.2.1.size) HX6.out.1).trans HM0.out.2.2.1
  have xf11 := (hM7.2.cell (p := ⟨X, 11, none⟩) (Nat.lt_of_lt_of_le HX6.out.2 HM0.out.2.1.size) HX6.out.1).trans HM0.out.2.2.2
  have HX7 := Lib.hid (And.intro HX6.out.1 (block_lt_of_cell xf1))
  obtain ⟨s7, hs7⟩ : ∃ s7 : GS, s7 = { s1.add [⟨17, t, t + 1, 0, 0⟩] with V := s.V.put x.name ⟨t, 0, 0⟩, pats := [n0] } := ⟨_, rfl⟩
  have hM7' : MkAt w7 B m6 F (N + 1) s7 := by
    rw [hs7, ← Hs1.out.2.1]
    exact hM7.1
  have Hs7 := Lib.hid (And.intro hs7 (And.intro (show s7.code.length = n0 + 1 by rw [hs7]; show (s1.add _).code.length = _; rw [GS.add_len, Hs1.out.1]; rfl) (And.intro (show s7.V = s.V.put x.name ⟨t, 0, 0⟩ by rw [hs7]) (And.intro (show s7.words = s.words by rw [hs7]; exact Hs1.out.2.2.1) (show s7.pats = [n0] by rw [hs7])))))
  have H7 := Lib.hid (And.intro hM7' ((GStep.of_below m6 HM0.out.2.1).trans hM7.2))
  have HB7 : Hid (Below w0.heap.size w0 w7) := ((H4.out.2.1.trans H4.out.2.2.2.1).trans H7.out.2).below HB1.out fun k e => Nat.le_trans Hw.out (Hmlo.out k e)
  unfold plcV at hrun
  clear hS hSn hp7 hO7 hM7 hM7' hs7
  go_simp
  refine hKc.out _ _ (fun h => absurd rfl h) ?_
  clear hKc Kc hrun
  refine wpAnyZ_done (by kernel_rfl) ?_ _
  go_wp2_with fail
  have hp := Hf.out.2.2 w7 B m6 F (N + 1) s7 (t + 2) HB7.out Hw.out H7.out.1 (by have := Ht.out; omega) Ht.out.2.2.1 Hn.out.2.1 (by rw [Hs7.out.2.2.2.2]; exact Hn.out.2.2) (by rw [Hs7.out.2.1, Hs7.out.2.2.1, Hs7.out.2.2.2.1, ← Hc.out.2.2]; have := Hl.out.1; omega)
  rw [Hbb.out, Hs7.out.2.1, Hs7.out.2.2.1, Hs7.out.2.2.2.1, ← Hc.out.2.2] at hp
  unfold ptrV at hp
  refine hp.mono ?_
  rintro E w8 ⟨rfl, m8, hM8, hG8⟩
  clear hp
  have xg1 := (hG8.cell (p := ⟨X, 1, none⟩) HX7.out.2 HX7.out.1).trans xf1
  have HX8 := Lib.hid (And.intro (hG8.block HX7.out.2 HX7.out.1).2 (Nat.lt_of_lt_of_le HX7.out.2 hG8.oth.size))
  have H8 := Lib.hid (And.intro hM8 (And.intro (H7.out.2.trans hG8) (hG8.b.trans Hbb.out)))
  clear hM8 hG8 xf1 xf11
  go_upto_region 8 with (fail)
  refine wp_region_held (S := fun w => w.cell? ⟨m.b, 2, none⟩ = some (.map (some m8.v)) ∧ w.cell? ⟨X, 1, none⟩ = some (.string x.name)) rfl ?_
  change wpAnyH _ _ _ _ _ _ _ _ w8.drew
  obtain ⟨Wa, hWa⟩ : ∃ Wa, Wa = w8.drew := ⟨_, rfl⟩
  rw [← hWa]
  have hba : Below w8.heap.size w8 Wa := by rw [hWa]; exact (Below.refl _ _).drew
  have HMa := Lib.hid (And.intro (H8.out.1.later hba) (And.intro hba ((hba.cell (p := ⟨X, 1, none⟩) HX8.out.2).trans xg1)))
  have Hba : Hid (Wa.cell? ⟨m.b, 2, none⟩ = some (.map (some m8.v)) ∧ Wa.cell? ⟨X, 1, none⟩ = some (.string x.name)) := ⟨by have h1 := HMa.out.1.c2; rw [H8.out.2.2] at h1; exact h1, HMa.out.2.2⟩
  clear hba hWa xg1
  refine wpAnyH_take (i := 0) (by simp only [List.getElem?_toArray, List.getElem?_cons_zero]; rfl) (by kernel_rfl) (by kernel_rfl) (by kernel_rfl) (by intro _ _ _ h; exact h) (Or.inl ⟨by rfl, fun w hw => by (obtain ⟨k0, k1⟩ := hw; go_simp; try rfl)⟩) Hba.out ?_
  refine wpAnyH_take (i := 1) (by simp only [List.getElem?_toArray, List.getElem?_cons_succ, List.getElem?_cons_zero]; rfl) (by kernel_rfl) (by kernel_rfl) (by kernel_rfl) (by intro _ _ _ h; exact h) (Or.inl ⟨by rfl, fun w hw => by (obtain ⟨k0, k1⟩ := hw; go_simp; try rfl)⟩) Hba.out ?_
  go_frame
  refine wpAnyH_take (i := 2) (by simp only [List.getElem?_toArray, List.getElem?_cons_succ, List.getElem?_cons_zero]; rfl) (by kernel_rfl) (by kernel_rfl) (by kernel_rfl) (by intro _ _ _ h; exact h) (Or.inl ⟨by rfl, fun w hw => by (obtain ⟨k0, k1⟩ := hw; go_simp; try rfl)⟩) Hba.out ?_
  refine wpAnyH_take (i := 3) (by simp only [List.getElem?_toArray, List.getElem?_cons_succ, List.getElem?_cons_zero]; rfl) (by kernel_rfl) (by kernel_rfl) (by kernel_rfl) (by intro _ _ _ h; exact h) (Or.inl ⟨by rfl, fun w hw => by (obtain ⟨k0, k1⟩ := hw; go_simp; try rfl)⟩) Hba.out ?_
  go_frame
  refine wpAnyH_take (i := 4) (by simp only [List.getElem?_toArray, List.getElem?_cons_succ, List.getElem?_cons_zero]; rfl) (by kernel_rfl) (by kernel_rfl) (by kernel_rfl) (by intro _ _ _ h; exact h) (Or.inl ⟨by rfl, fun w hw => by (obtain ⟨k0, k1⟩ := hw; go_simp; try rfl)⟩) Hba.out ?_
  refine wpAnyH_take (i := 5) (by simp only [List.getElem?_toArray, List.getElem?_cons_succ, List.getElem?_cons_zero]; rfl) (by kernel_rfl) (by kernel_rfl) (by kernel_rfl) (by intro _ _ _ h; exact h) (Or.inl ⟨by rfl, fun w hw => by (obtain ⟨k0, k1⟩ := hw; go_simp; try rfl)⟩) Hba.out ?_
  go_frame
  refine wpAnyH_ready (rs := [6]) (by kernel_rfl) (by simp) ?_
  refine AllReadyH.cons rfl (fun K hK => ?_) AllReadyH.nil
  rw [if_pos (by rfl)]
  obtain ⟨S, hS, hSn⟩ := HMa.out.1.vars
  refine pm_del_wp _ _ rfl m8.v S _ rfl hS x.name rfl hsz ?_
  intro w9 hp9 hO9
  have hM9 := HMa.out.1.putV hO9 hp9 (N' := N + 1 + St.totals x.body) (Nat.le_trans (List.length_filter_le _ _) hSn) (fun z => by
    unfold GEnv.put
    split
    · exact zero12
    · exact HMa.out.1.vreg z)
  have H9 := Lib.hid (And.intro hM9.1 (H8.out.2.1.trans ((GStep.of_below m8 HMa.out.2.1).trans hM9.2)))
  have hx9 := (hM9.2.cell (p := ⟨X, 1, none⟩) (Nat.lt_of_lt_of_le HX8.out.2 HMa.out.2.1.size) HX8.out.1).trans HMa.out.2.2
  have HS9 : Hid (w9.cell? ⟨m.b, 2, none⟩ = some (.map (some m8.v)) ∧ w9.cell? ⟨X, 1, none⟩ = some (.string x.name)) := ⟨by have h1 := hM9.1.c2; rw [H8.out.2.2] at h1; exact h1, hx9⟩
  clear hS hSn hp9 hO9 hM9 hx9
  refine hK.out _ _ HS9.out (fun _ => ?_)
  clear hK K
  try go_frame
  refine wpAnyH_done (by kernel_rfl) ?_ _
  go_wp2_with fail
  have hp := put_any ⟨18, t, 0, 0, (n0 : Int)⟩ (regs3 (by have := Ht.out; omega) zero12 zero12 _ _) w9 B m8 F _ _ H9.out.1 (by show (s7.code ++ o.code).length ≤ _; rw [List.length_append, Hs7.out.2.1]; have := Hl.out.1; omega)
  rw [H8.out.2.2] at hp
  unfold ptrV insV at hp
  refine hp.mono ?_
  rintro E w10 ⟨rfl, m10, hM10, hG10⟩
  clear hp
  obtain ⟨s10, hs10⟩ : ∃ s10 : GS, s10 = GS.add { s7.out o with V := o.V.put x.name noPlc } [⟨18, t, 0, 0, (n0 : Int)⟩] := ⟨_, rfl⟩
  have hM10' : MkAt w10 B m10 F (N + 1 + St.totals x.body) s10 := by rw [hs10]; exact hM10
  have hp10 : s10.pats = [n0] ++ o.brk := by rw [hs10]; show s7.pats ++ o.brk = _; rw [Hs7.out.2.2.2.2]
  have hc10 : s10.code.length = n0 + 1 + o.code.length + 1 := by
    rw [hs10, GS.add_len]
    show (s7.code ++ o.code).length + 1 = _
    rw [List.length_append, Hs7.out.2.1]
  obtain ⟨pa, pn, pc, hpv⟩ : ∃ a n c, m10.pv = .slice a n c := by obtain ⟨fvs, h1, _⟩ := hM10'.pats; exact row_shape h1
  have hpn : pn = 1 + o.brk.length := by
    obtain ⟨fvs, h1, _⟩ := hM10'.pats
    have h2 := h1.1
    rw [hp10] at h1
    rcases h1.2 with ⟨e, e0⟩ | ⟨g, c2, cur, e, _⟩
    · simp at e0
    · rw [hpv] at e; cases e; simp; omega
  have c5 := hM10'.c5
  rw [hG10.b, H8.out.2.2, hpv] at c5
  have hpn9 : pn ≤ 1000000000 := by have h1 := Hl.out.2.2; have h2 := Hn.out.2.2; omega
  have Hs10 := Lib.hid (And.intro hs10 (And.intro hp10 (And.intro hc10 (And.intro hpv hpn))))
  have H10 := Lib.hid (And.intro hM10' (And.intro (H9.out.2.trans hG10) (hG10.b.trans H8.out.2.2)))
  clear hM10 hG10 hM10' hs10 hp10 hc10 hpv hpn
  go_wp2_with fail
  go_loopg [69] pn (fun g iv wx => ∃ i : Nat, g = pn - i ∧ iv = .int .i64 (i : Int) ∧ i ≤ pn ∧ MkAt wx B m10 F (N + 1 + St.totals x.body) (s10.leads (s10.pats.take i)) ∧ GStep w10 m10 wx m10)
  case atStart => exact ⟨0, rfl, rfl, Nat.zero_le _, H10.out.1, GStep.refl _ _⟩
  case round =>
    obtain ⟨i, hg, rfl, hi, hM, hG⟩ := hrel
    by_cases hin : i < pn
    · have hlen : s10.pats.length = pn := by rw [Hs10.out.2.1, Hs10.out.2.2.2.2]; simp; omega
      obtain ⟨j, hj⟩ : ∃ j, s10.pats[i]? = some j := ⟨_, List.getElem?_eq_getElem (by omega)⟩
      obtain ⟨fvs, h1, h2⟩ := hM.pats
      obtain ⟨fv2, he, hlt⟩ := h2 i j hj
      obtain ⟨bm, ba, rfl, hlt'⟩ := hlt
      have hcl : wr.cell? ⟨bm, 0, none⟩ = some (ptrV m10.b) ∧ wr.cell? ⟨ba, 0, none⟩ = some (.int .i64 (j : Int)) := ⟨hlt'.1, hlt'.2.1⟩
      obtain ⟨g, rfl⟩ : ∃ g, pa = some ⟨g, 0, none⟩ := by
        rcases h1.2 with ⟨e, e0⟩ | ⟨g, c2, cur, e, _⟩
        · have h3 : s10.pats.length = 0 := e0
          omega
        · rw [Hs10.out.2.2.2.1] at e; cases e; exact ⟨g, rfl⟩
      have hcell : wr.cell? ⟨g, i, none⟩ = some (laterV bm ba) := by
        have h3 := World.ownsRow.cells h1 (g := g) (by rw [Hs10.out.2.2.2.1]; rfl) i (laterV bm ba) he
        have ha : (⟨g, 0, none⟩ : Addr).add i = ⟨g, i, none⟩ := by unfold Addr.add; split <;> simp_all
        rw [← ha]
        exact h3
      have hjl : j < s10.code.length := H10.out.1.pin j (List.mem_of_getElem? hj)
      have HMr := Lib.hid (And.intro hM (And.intro hG (And.intro hg (And.intro hj (And.intro hjl hcl)))))
      have hin2 : (i : Int) < (pn : Int) := by omega
      have hd1 : decide ((i : Int) < (pn : Int)) = true := decide_eq_true hin2
      have hd2 : decide (i < pn) = true := decide_eq_true hin
      clear hM hG hg hj hjl hcl h1 h2 he hlt' hlen hi c5
      unfold laterV at hcell
      go_wp2_with fail
      have hp := patch_any bm ba j wr B m10 F _ _ HMr.out.1 (by rw [leads_len]; exact HMr.out.2.2.2.2.1) (by rw [leads_len, Hs10.out.2.2.1]; have := Hl.out.1; omega) HMr.out.2.2.2.2.2.1 HMr.out.2.2.2.2.2.2
      refine hp.mono ?_
      rintro E w11 ⟨rfl, hM11, hG11⟩
      have H11 := Lib.hid (And.intro hM11 (HMr.out.2.1.trans hG11))
      clear hp hM11 hG11
      go_wp2_with fail
      go_roundg (pn - (i + 1))
      case measure => have := HMr.out.2.2.1; omega
      case rel => exact ⟨i + 1, rfl, by go_num, hin, by rw [take_next HMr.out.2.2.2.1, leads_snoc]; exact H11.out.1, H11.out.2⟩
    · obtain rfl : pn = i := by omega
      have hlen : s10.pats.length = pn := by rw [Hs10.out.2.1, Hs10.out.2.2.2.2]; simp; omega
      rw [List.take_of_length_le (by omega)] at hM
      have hbk := H4.out.1.backP H4.out.2.2.2.1 (by rw [← HW5.out.2.1]; exact H4.out.2.2.2.2.1) H4.out.2.2.2.2.2 ((H10.out.2.1).trans hG) hM (by rw [leads_len, GS.add_len, Hs10.out.2.2.1, Hs1.out.1]; simp only [List.length_cons, List.length_nil]; omega)
      have y5 := hbk.1.1
      have y5f := hbk.1.2
      rw [H10.out.2.2] at y5 y5f
      have HE := Lib.hid (And.intro hbk.2.1 (And.intro hbk.2.2 H10.out.2.2))
      clear hg hi hin hM hG hlen hbk c5
      go_wp2_with fail
      refine bodyPost_end (results_none rfl _ _ _) rfl ?_
      have h1 := HE.out.1
      have h2 := HE.out.2.1
      rw [HE.out.2.2, Hov.out] at h1 h2
      refine ⟨rfl, _, ?_, (GStep.of_below m HW.out.2.2).trans (H4.out.2.1.trans h2)⟩
      rw [Hs10.out.2.1, Hs10.out.1, Hs7.out.1] at h1
      have h3 := h1.mono Hn.out.1
      rw [← Hs1.out.2.2.2.2]
      have h4 : (s1.add [⟨17, t, t + 1, 0, 0⟩]).pats = s.pats := Hs1.out.2.2.2.1
      rw [h4] at h3
      exact h3
end Go.Proofs.YtgobcldecokppaaDoor
