/- counts: whether a loop does, or what is wrong first. -/
import Derived.Test.YtapjdndcnenadaaDoorRound
import Derived.BigQuiet
/- code.Writes and the reference's: the register that an instruction writes. -/
namespace Go.Proofs.YtapjdndcnenadaaDoor
open Go.RowKit

def writesB (op : Int) : Bool := decide ((1 ≤ op ∧ op ≤ 11) ∨ op = 18 ∨ op = 19)
/-- The table of operations, as far as it is asked. -/
def WritesIn (w : World) : Prop := ∀ i : Nat, i < 20 → w.cell? ⟨0, i * 7 + 6, none⟩ = some (.bool (writesB i))
theorem WritesIn.next {w w' : World} (h : WritesIn w) (hb : Below w.heap.size w w') : WritesIn w' := fun i hi => by
  have h1 := h i hi
  exact (hb.cell (block_lt_of_cell h1)).trans h1
def writesI (op a : Int) : Int := if writesB op = true then a else -1
def insV (x : Ins) : Value := .agg #[.int .i64 x.op, .int .i64 x.a, .int .i64 x.b, .int .i64 x.c, .int .i64 x.n]

set_option maxHeartbeats 1000000 in
theorem writes_any (x : Ins) (w : World) (hw : WritesIn w) :
    Calls Tryd.prog 38 #[insV x] w (Gives (.int .i64 (writesI x.op x.a)) w) := by
  obtain ⟨op, a, b, c, n⟩ := x
  have hb : Below w.heap.size w (w.alloc (.cells #[.int .i64 op, .int .i64 a, .int .i64 b, .int .i64 c, .int .i64 n] 52)) := (Below.refl _ _).alloc (Nat.le_refl _) _
  have Hb := Lib.hid hb
  have hg : 0 < w.heap.size := block_lt_of_cell (hw 0 (by omega))
  by_cases h : 0 ≤ op ∧ op ≤ 19
  · obtain ⟨h1, h2⟩ := h
    obtain ⟨i, rfl⟩ := Int.eq_ofNat_of_zero_le h1
    have hi : i < 20 := by omega
    have hc := hw.next hb i hi
    have hk : knownB (i : Int) = true := by simp [knownB]; omega
    obtain ⟨W, hW⟩ : ∃ W, W = writesB (i : Int) := ⟨_, rfl⟩
    have Hres : Hid (writesI (i : Int) a = if W = true then a else -1) := by rw [hW]; exact rfl
    rw [← hW] at hc
    clear h1 h2 hw hb hW
    cases W
    all_goals
      unfold insV
      go_enter Tryd.func38, Tryd.ntmps38
      go_wp2_with fail
      refine (known_any _ _).mono ?_
      rintro e w' ⟨rfl, rfl⟩
      rw [hk]
      go_wp2_with fail
      go_ret
      exact ⟨by rw [Hres.out]; rfl, Hb.out⟩
  · have hk : knownB op = false := by simp [knownB]; omega
    have Hres : Hid (writesI op a = -1) := by
      show _ = _
      unfold writesI writesB
      rw [if_neg]
      simp only [decide_eq_true_eq]
      omega
    clear h hw hb
    unfold insV
    go_enter Tryd.func38, Tryd.ntmps38
    go_wp2_with fail
    refine (known_any _ _).mono ?_
    rintro e w' ⟨rfl, rfl⟩
    rw [hk]
    go_wp2_with fail
    go_ret
    exact ⟨by rw [Hres.out]; rfl, Hb.out⟩

set_option maxHeartbeats 1000000 in
theorem rwrites_any (x : Ins) (w : World) :
    Calls Tryd.prog 17 #[insV x] w (Gives (.int .i64 (writesI x.op x.a)) w) := by
  obtain ⟨op, a, b, c, n⟩ := x
  have hb : Below w.heap.size w (w.alloc (.cells #[.int .i64 op, .int .i64 a, .int .i64 b, .int .i64 c, .int .i64 n] 52)) := (Below.refl _ _).alloc (Nat.le_refl _) _
  have Hb := Lib.hid hb
  obtain ⟨y, hy⟩ : ∃ y, y = writesI op a := ⟨_, rfl⟩
  have Hy := Lib.hid hy
  clear hb
  have key : ∀ z : Int, (writesB op = true → z = a) → (writesB op = false → z = -1) → z = writesI op a := fun z h1 h2 => by
    unfold writesI
    cases h : writesB op
    · simp [h2 h]
    · simp [h1 h]
  clear hy
  unfold insV
  go_enter Tryd.func17, Tryd.ntmps17
  go_wp2_with fail
  all_goals
    go_ret
    refine ⟨ret_int (key _ (fun h => ?_) (fun h => ?_)), Hb.out⟩
    all_goals (unfold writesB at h; simp only [beq_iff_eq, beq_eq_false_iff_ne, ne_eq, decide_eq_true_eq, decide_eq_false_iff_not] at *; try omega)
end Go.Proofs.YtapjdndcnenadaaDoor

namespace Go.Proofs.YtapjdndcnenadaaDoor
open Go.RowKit Go.Maps

def insAt (code : List Ins) (u : Int) : Ins := code.getD u.toNat default
def badBack (code : List Ins) (c : Ins) (u : Int) : Bool := (insAt code u).op != 18 || (insAt code u).a != c.a
def drives (code : List Ins) (c : Ins) (backs : List Int) (u : Int) : Bool :=
  (writesI (insAt code u).op (insAt code u).a == c.a && decide (0 ≤ writesI (insAt code u).op (insAt code u).a) && !decide (u ∈ backs)) || (writesI (insAt code u).op (insAt code u).a == c.b && decide (0 ≤ writesI (insAt code u).op (insAt code u).a))
/-- What is wrong first with a loop, and where. -/
def countsOf (code : List Ins) (head : Int) (mem backs : List Int) : Int × Int :=
  if (insAt code head).op ≠ 17 then (71, head) else
  match backs.find? (badBack code (insAt code head)) with
  | some u => (72, u)
  | none => match mem.find? (drives code (insAt code head) backs) with
    | some u => (73, u)
    | none => if mem.any (fun u => u == (insAt code head).n) then (74, head) else (0, 0)
theorem find_first {p : Int → Bool} : ∀ {l : List Int} {k : Nat} {u : Int}, l[k]? = some u → (∀ j v, j < k → l[j]? = some v → p v = false) → p u = true → l.find? p = some u
  | [], _, _, h, _, _ => by simp at h
  | x :: l, 0, u, h, _, hp => by simp at h; subst h; simp [hp]
  | x :: l, k + 1, u, h, hn, hp => by
    have h0 := hn 0 x (by omega) rfl
    rw [List.find?_cons, h0]
    exact find_first (by simpa using h) (fun j v hj hv => hn (j + 1) v (by omega) (by simpa using hv)) hp
theorem find_no {p : Int → Bool} {l : List Int} (h : ∀ j v, j < l.length → l[j]? = some v → p v = false) : l.find? p = none := by
  rw [List.find?_eq_none]
  intro x hx
  obtain ⟨j, hj, e⟩ := List.mem_iff_getElem.1 hx
  rw [h j x hj (by rw [List.getElem?_eq_getElem hj, e])]
  simp
theorem countsOf_head {code : List Ins} {head : Int} {mem backs : List Int} (h : (insAt code head).op ≠ 17) : countsOf code head mem backs = (71, head) := by unfold countsOf; rw [if_pos h]
theorem countsOf_back {code : List Ins} {head : Int} {mem backs : List Int} {k : Nat} {u : Int} (h : (insAt code head).op = 17) (hu : backs[k]? = some u) (hn : ∀ j v, j < k → backs[j]? = some v → badBack code (insAt code head) v = false) (hp : badBack code (insAt code head) u = true) : countsOf code head mem backs = (72, u) := by
  unfold countsOf; rw [if_neg (by simp [h]), find_first hu hn hp]
theorem countsOf_drive {code : List Ins} {head : Int} {mem backs : List Int} {k : Nat} {u : Int} (h : (insAt code head).op = 17) (hb : ∀ j v, j < backs.length → backs[j]? = some v → badBack code (insAt code head) v = false) (hu : mem[k]? = some u) (hn : ∀ j v, j < k → mem[j]? = some v → drives code (insAt code head) backs v = false) (hp : drives code (insAt code head) backs u = true) : countsOf code head mem backs = (73, u) := by
  unfold countsOf; rw [if_neg (by simp [h]), find_no hb, find_first hu hn hp]
theorem countsOf_end {code : List Ins} {head : Int} {mem backs : List Int} (h : (insAt code head).op = 17) (hb : ∀ j v, j < backs.length → backs[j]? = some v → badBack code (insAt code head) v = false) (hn : ∀ j v, j < mem.length → mem[j]? = some v → drives code (insAt code head) backs v = false) :
    countsOf code head mem backs = if mem.any (fun u => u == (insAt code head).n) then (74, head) else (0, 0) := by
  unfold countsOf; rw [if_neg (by simp [h]), find_no hb, find_no hn]
/-- Whether the loop's way out leads into it, as far as the first k say. -/
def exitsTo (mem : List Int) (n : Int) (k : Nat) : Int := if (mem.take k).any (fun u => u == n) then 74 else 0
theorem exitsTo_succ {mem : List Int} {n u : Int} {k : Nat} (h : mem[k]? = some u) : exitsTo mem n (k + 1) = if u = n then 74 else exitsTo mem n k := by
  unfold exitsTo
  rw [List.take_add_one, h, List.any_append]
  by_cases e : u = n
  · simp [e]
  · simp [e]
theorem exitsTo_range (mem : List Int) (n : Int) (k : Nat) : exitsTo mem n k = 0 ∨ exitsTo mem n k = 74 := by unfold exitsTo; split <;> simp

/-- The cells of an instruction. -/
theorem ins_cells {w : World} {b off len cap : Nat} {code : List Ins} (hc : CodeIn w (.slice (some ⟨b, off, none⟩) len cap) code) {u : Nat} (hu : u < code.length) :
    w.cell? ⟨b, off + u * 5, none⟩ = some (.int .i64 (insAt code u).op) ∧ w.cell? ⟨b, off + u * 5 + 1, none⟩ = some (.int .i64 (insAt code u).a) ∧ w.cell? ⟨b, off + u * 5 + 2, none⟩ = some (.int .i64 (insAt code u).b) ∧
    w.cell? ⟨b, off + u * 5 + 3, none⟩ = some (.int .i64 (insAt code u).c) ∧ w.cell? ⟨b, off + u * 5 + 4, none⟩ = some (.int .i64 (insAt code u).n) := by
  have hx : code[u]? = some (insAt code u) := by
    unfold insAt
    rw [List.getD_eq_getElem?_getD, Int.toNat_natCast, List.getElem?_eq_getElem hu]; rfl
  exact CodeIn.at hc rfl hx
abbrev loopVal (head parent : Int) (vm vb : Value) : Value := .agg #[.int .i64 head, .int .i64 parent, vm, vb]
/-- The call's memory. -/
structure CN (w W : World) (s : ByteArray) (vp : Value) (regs words : Int) (vc : Value) (head parent : Int) (vm vb : Value) (c : Ins) : Prop where
  fn : FnAt W w.heap.size s vp regs words vc
  l0 : W.cell? ⟨w.heap.size + 1, 0, none⟩ = some (.int .i64 head)
  l2 : W.cell? ⟨w.heap.size + 1, 2, none⟩ = some vm
  l3 : W.cell? ⟨w.heap.size + 1, 3, none⟩ = some vb
  c0 : W.cell? ⟨w.heap.size + 2, 0, none⟩ = some (.int .i64 c.op)
  c1 : W.cell? ⟨w.heap.size + 2, 1, none⟩ = some (.int .i64 c.a)
  c2 : W.cell? ⟨w.heap.size + 2, 2, none⟩ = some (.int .i64 c.b)
  c4 : W.cell? ⟨w.heap.size + 2, 4, none⟩ = some (.int .i64 c.n)
  below : Below w.heap.size w W
  size : w.heap.size + 3 ≤ W.heap.size

theorem CN.start (w : World) (s : ByteArray) (vp : Value) (regs words : Int) (vc : Value) (head parent : Int) (vm vb : Value) (op a b c n : Int) :
    CN w ((((w.alloc (.cells #[.string s, vp, .int .i64 regs, .int .i64 words, vc] 25)).alloc (.cells #[.int .i64 head, .int .i64 parent, vm, vb] 40)).alloc (.cells #[.int .i64 op, .int .i64 a, .int .i64 b, .int .i64 c, .int .i64 n] 52)).alloc (.map #[] 0)) s vp regs words vc head parent vm vb ⟨op, a, b, c, n⟩ := by
  have e1 : ∀ j u, (#[Value.int .i64 head, .int .i64 parent, vm, vb] : Array Value)[j]? = some u → ((((w.alloc (.cells #[.string s, vp, .int .i64 regs, .int .i64 words, vc] 25)).alloc (.cells #[.int .i64 head, .int .i64 parent, vm, vb] 40)).alloc (.cells #[.int .i64 op, .int .i64 a, .int .i64 b, .int .i64 c, .int .i64 n] 52)).alloc (.map #[] 0)).cell? ⟨w.heap.size + 1, j, none⟩ = some u := fun j u hu => by
    have hb : Below (w.heap.size + 2) ((w.alloc (.cells #[.string s, vp, .int .i64 regs, .int .i64 words, vc] 25)).alloc (.cells #[.int .i64 head, .int .i64 parent, vm, vb] 40)) ((((w.alloc (.cells #[.string s, vp, .int .i64 regs, .int .i64 words, vc] 25)).alloc (.cells #[.int .i64 head, .int .i64 parent, vm, vb] 40)).alloc (.cells #[.int .i64 op, .int .i64 a, .int .i64 b, .int .i64 c, .int .i64 n] 52)).alloc (.map #[] 0)) := ((Below.refl _ _).alloc (by (try simp only [World.size_alloc]); (try simp only [size_set]); omega) _).alloc (by (try simp only [World.size_alloc]); (try simp only [size_set]); omega) _
    rw [hb.cell (p := ⟨w.heap.size + 1, j, none⟩) (by show w.heap.size + 1 < _; omega), World.cell?_alloc_at _ _ _ _ (by simp)]; exact hu
  have e2 : ∀ j u, (#[Value.int .i64 op, .int .i64 a, .int .i64 b, .int .i64 c, .int .i64 n] : Array Value)[j]? = some u → ((((w.alloc (.cells #[.string s, vp, .int .i64 regs, .int .i64 words, vc] 25)).alloc (.cells #[.int .i64 head, .int .i64 parent, vm, vb] 40)).alloc (.cells #[.int .i64 op, .int .i64 a, .int .i64 b, .int .i64 c, .int .i64 n] 52)).alloc (.map #[] 0)).cell? ⟨w.heap.size + 2, j, none⟩ = some u := fun j u hu => by
    have hb : Below (w.heap.size + 3) (((w.alloc (.cells #[.string s, vp, .int .i64 regs, .int .i64 words, vc] 25)).alloc (.cells #[.int .i64 head, .int .i64 parent, vm, vb] 40)).alloc (.cells #[.int .i64 op, .int .i64 a, .int .i64 b, .int .i64 c, .int .i64 n] 52)) ((((w.alloc (.cells #[.string s, vp, .int .i64 regs, .int .i64 words, vc] 25)).alloc (.cells #[.int .i64 head, .int .i64 parent, vm, vb] 40)).alloc (.cells #[.int .i64 op, .int .i64 a, .int .i64 b, .int .i64 c, .int .i64 n] 52)).alloc (.map #[] 0)) := (Below.refl _ _).alloc (by (try simp only [World.size_alloc]); (try simp only [size_set]); omega) _
    rw [hb.cell (p := ⟨w.heap.size + 2, j, none⟩) (by show w.heap.size + 2 < _; omega), World.cell?_alloc_at _ _ _ _ (by simp)]; exact hu
  refine ⟨(FnAt.box w s vp regs words vc _).later ((((Below.refl (w.heap.size + 1) _).alloc (by (try simp only [World.size_alloc]); (try simp only [size_set]); omega) _).alloc (by (try simp only [World.size_alloc]); (try simp only [size_set]); omega) _).alloc (by (try simp only [World.size_alloc]); (try simp only [size_set]); omega) _) (Nat.lt_succ_self _), e1 0 _ rfl, e1 2 _ rfl, e1 3 _ rfl, e2 0 _ rfl, e2 1 _ rfl, e2 2 _ rfl, e2 4 _ rfl, (((((Below.refl _ _).alloc (Nat.le_refl _) _).alloc (by (try simp only [World.size_alloc]); (try simp only [size_set]); omega) _).alloc (by (try simp only [World.size_alloc]); (try simp only [size_set]); omega) _).alloc (by (try simp only [World.size_alloc]); (try simp only [size_set]); omega) _), by simp⟩
theorem CN.keep {w W W' : World} {s : ByteArray} {vp : Value} {regs words : Int} {vc : Value} {head parent : Int} {vm vb : Value} {c : Ins} (h : CN w W s vp regs words vc head parent vm vb c) {B : Nat} (hk : Keep B (w.heap.size + 3) W W') (hB : w.heap.size + 3 ≤ B) : CN w W' s vp regs words vc head parent vm vb c := by
  have k : ∀ p : Addr, p.block < w.heap.size + 3 → W'.cell? p = W.cell? p := fun p hp => hk.cell (by omega) (by omega)
  exact ⟨⟨(k ⟨w.heap.size, 0, none⟩ (by show w.heap.size < _; omega)).trans h.fn.c0, (k ⟨w.heap.size, 1, none⟩ (by show w.heap.size < _; omega)).trans h.fn.c1, (k ⟨w.heap.size, 2, none⟩ (by show w.heap.size < _; omega)).trans h.fn.c2, (k ⟨w.heap.size, 3, none⟩ (by show w.heap.size < _; omega)).trans h.fn.c3, (k ⟨w.heap.size, 4, none⟩ (by show w.heap.size < _; omega)).trans h.fn.c4⟩,
    (k ⟨w.heap.size + 1, 0, none⟩ (by show w.heap.size + 1 < _; omega)).trans h.l0, (k ⟨w.heap.size + 1, 2, none⟩ (by show w.heap.size + 1 < _; omega)).trans h.l2, (k ⟨w.heap.size + 1, 3, none⟩ (by show w.heap.size + 1 < _; omega)).trans h.l3,
    (k ⟨w.heap.size + 2, 0, none⟩ (by show w.heap.size + 2 < _; omega)).trans h.c0, (k ⟨w.heap.size + 2, 1, none⟩ (by show w.heap.size + 2 < _; omega)).trans h.c1, (k ⟨w.heap.size + 2, 2, none⟩ (by show w.heap.size + 2 < _; omega)).trans h.c2, (k ⟨w.heap.size + 2, 4, none⟩ (by show w.heap.size + 2 < _; omega)).trans h.c4,
    h.below.trans (hk.below (by omega) (by omega)), Nat.le_trans h.size hk.size⟩

set_option maxRecDepth 100000 in
set_option maxHeartbeats 8000000 in
theorem counts_any (s : ByteArray) (vp : Value) (regs words : Int) (vc : Value) (code : List Ins) (head parent : Int) (vm vb : Value) (mem backs : List Int) (w : World) (hc : CodeIn w vc code) (hm : IntsIn w vm mem) (hb : IntsIn w vb backs) (hw : WritesIn w)
    (hn1 : code.length ≤ 1024) (hh : 0 ≤ head ∧ head < code.length) (hmr : ∀ u ∈ mem, 0 ≤ u ∧ u < code.length) (hbr : ∀ u ∈ backs, 0 ≤ u ∧ u < code.length) (hml : mem.length ≤ 4000) (hbl : backs.length ≤ 4000) :
    Calls Tryd.prog 24 #[fnV s vp regs words vc, loopVal head parent vm vb] w (Gives (.tuple #[.int .i64 (countsOf code head mem backs).1, .int .i64 (countsOf code head mem backs).2]) w) := by
  obtain ⟨hh0, hh1⟩ := hh
  obtain ⟨head, rfl⟩ := Int.eq_ofNat_of_zero_le hh0
  have hhl : head < code.length := by omega
  have hc0 := hc
  obtain ⟨-, ac, cc, rfl, -, -, -, hac⟩ := hc0
  obtain ⟨g, off, rfl, hg, -⟩ := hac (by omega)
  obtain ⟨h0, h1, h2, h3, h4⟩ := ins_cells hc hhl
  have hm0 := hm
  have hb0 := hb
  obtain ⟨-, am, cm, rfl, -, -, -, ham⟩ := hm0
  obtain ⟨-, ab, cb, rfl, -, -, -, hab⟩ := hb0
  obtain ⟨n, hn⟩ : ∃ n, n = code.length := ⟨_, rfl⟩
  obtain ⟨nm, hnm⟩ : ∃ nm, nm = mem.length := ⟨_, rfl⟩
  obtain ⟨nb, hnb⟩ : ∃ nb, nb = backs.length := ⟨_, rfl⟩
  rw [← hn] at hn1 hhl hc hmr hbr ⊢
  rw [← hnm] at hml ham hm ⊢
  rw [← hnb] at hbl hab hb ⊢
  obtain ⟨c, hcd⟩ : ∃ c, c = insAt code head := ⟨_, rfl⟩
  rw [← hcd] at h0 h1 h2 h3 h4
  have Hc := Lib.hid hc
  have Hm := Lib.hid hm
  have Hb := Lib.hid hb
  have Hw := Lib.hid hw
  have Hn := Lib.hid (And.intro hn (And.intro hnm hnb))
  have Hr := Lib.hid (And.intro hmr hbr)
  have Hcd := Lib.hid hcd
  have Hab := Lib.hid hab
  have Ham := Lib.hid ham
  obtain ⟨cop, ca, cb', ccc, cn⟩ := c
  simp only at h0 h1 h2 h3 h4
  have hmm := @run_makeMap Tryd.prog
  obtain ⟨W4, hW4⟩ : ∃ W4, W4 = (((w.alloc (.cells #[.string s, vp, .int .i64 regs, .int .i64 words, .slice (some ⟨g, off, none⟩) n cc] 25)).alloc (.cells #[.int .i64 (head : Int), .int .i64 parent, .slice am nm cm, .slice ab nb cb] 40)).alloc (.cells #[.int .i64 cop, .int .i64 ca, .int .i64 cb', .int .i64 ccc, .int .i64 cn] 52)).alloc (.map #[] 0) := ⟨_, rfl⟩
  have hCN := CN.start w s vp regs words (.slice (some ⟨g, off, none⟩) n cc) (head : Int) parent (.slice am nm cm) (.slice ab nb cb) cop ca cb' ccc cn
  have hset := SetAt.made (((w.alloc (.cells #[.string s, vp, .int .i64 regs, .int .i64 words, .slice (some ⟨g, off, none⟩) n cc] 25)).alloc (.cells #[.int .i64 (head : Int), .int .i64 parent, .slice am nm cm, .slice ab nb cb] 40)).alloc (.cells #[.int .i64 cop, .int .i64 ca, .int .i64 cb', .int .i64 ccc, .int .i64 cn] 52))
  rw [← hW4] at hCN hset
  simp only [World.size_alloc] at hset
  have hs4 : W4.heap.size = w.heap.size + 4 := by rw [hW4]; simp
  have HCN := Lib.hid hCN
  have Hset : Hid (SetAt W4 (w.heap.size + 3) []) := hset
  have HW4 := Lib.hid hW4
  have Hs4 := Lib.hid hs4
  have hl3 := hCN.l3
  clear hc hm hb hw hn hnm hnb hmr hbr hcd hh0 hh1 hab ham hac hCN hset hW4 hs4
  by_cases hop : cop = 17
  · have hq : (cop != 17) = false := by simp [hop]
    have HopI : Hid ((insAt code (head : Int)).op = 17) := by show _ = _; rw [← Hcd.out]; exact hop
    clear hop
    go_enter Tryd.func24, Tryd.ntmps24
    go_wp2_with (rw [← HW4.out])
    go_loopw [31] (fun i wi => ∃ (k : Nat) (S : List Int), k ≤ nb ∧ i = .int .i64 (k : Int) ∧ SetAt wi (w.heap.size + 3) S ∧ (∀ x, x ∈ S ↔ x ∈ backs.take k) ∧ (∀ (j : Nat) v, j < k → backs[j]? = some v → badBack code (insAt code (head : Int)) v = false) ∧ Keep (w.heap.size + 4) (w.heap.size + 3) W4 wi) (fun i _ => nb - (intOf i).toNat)
    case atStart => exact ⟨0, [], Nat.zero_le _, rfl, Hset.out, fun x => by simp, fun j v h => by omega, Keep.refl _ _ _⟩
    case round =>
      obtain ⟨k, S, hk, rfl, hS, hSk, hno, hkp⟩ := hrel
      have hCk := HCN.out.keep hkp (by omega)
      obtain ⟨f0, f1, f2, f3, f4⟩ := hCk.fn
      have c0 := hCk.c0
      have c1 := hCk.c1
      simp only at c0 c1
      have hbw := hCk.below
      have hsw := hkp.size
      have HS := Lib.hid hS
      have Hk := Lib.hid (And.intro hSk (And.intro hno hkp))
      have HCk := Lib.hid hCk
      have hlw : w.heap.size + 3 < wr.heap.size := by have := Hs4.out; omega
      clear hS hSk hno hkp hCk
      by_cases hkn : k < nb
      · obtain ⟨gb, ob, rfl, hgb, hcb⟩ := Hab.out (by omega)
        obtain ⟨u, hu⟩ : ∃ u, backs[k]? = some u := ⟨_, List.getElem?_eq_getElem (by rw [← Hn.out.2.2]; exact hkn)⟩
        have hur := Hr.out.2 u (List.mem_of_getElem? hu)
        obtain ⟨hu0, hun⟩ := hur
        obtain ⟨u, rfl⟩ := Int.eq_ofNat_of_zero_le hu0
        have huN : u < n := by omega
        have hcu : wr.cell? ⟨gb, ob + k, none⟩ = some (.int .i64 (u : Int)) := (hbw.cell (p := ⟨gb, ob + k, none⟩) hgb).trans (hcb k _ (by simp [intVs, hu]))
        obtain ⟨i0, i1, -, -, -⟩ := ins_cells (SliceIn.later Hc.out hbw) (u := u) (by rw [← Hn.out.1]; exact huN)
        obtain ⟨x, hx⟩ : ∃ x, x = insAt code (u : Int) := ⟨_, rfl⟩
        rw [← hx] at i0 i1
        obtain ⟨xop, xa, xb, xc, xn⟩ := x
        simp only at i0 i1
        have hbad : badBack code (insAt code (head : Int)) (u : Int) = (xop != 18 || xa != ca) := by unfold badBack; rw [← hx, ← Hcd.out]
        have Hbad := Lib.hid hbad
        have Hu := Lib.hid hu
        clear hbad hu hx hcb hun hu0 hbw
        by_cases h18 : xop = 18
        · have q1 : (xop != 18) = false := by simp [h18]
          by_cases hxa : xa = ca
          · have q2 : (xa != ca) = false := by simp [hxa]
            have Hb2 : Hid (badBack code (insAt code (head : Int)) (u : Int) = false) := by show _ = _; rw [Hbad.out, q1, q2]; rfl
            have hSl : S.length ≤ 1000000000000 := by
              have h1 := nodup_subL S (backs.take k) HS.out.nodup (fun x hx => (Hk.out.1 x).1 hx)
              have h2 : (backs.take k).length ≤ backs.length := by rw [List.length_take]; omega
              have h3 := Hn.out.2.2
              omega
            clear h18 hxa
            go_wp2_with (first | (at_mapUpdate; refine set_put rfl _ _ _ rfl (w.heap.size + 3) S rfl (HS.out.at_block rfl) (u : Int) rfl rfl (by omega) hSl ?_) | go_quiet (fail))
            intro w6 hS6 hg6
            have hk6 : Keep (w.heap.size + 4) (w.heap.size + 3) W4 w6 := (Hk.out.2.2.trans (Keep.of_below (below_drewN (Below.refl _ _) _))).grown hg6 (by show _ ≤ wr.heap.size; have := Hs4.out; omega) (fun k e => by cases e; exact .inr rfl)
            have H6 := Lib.hid (And.intro hS6 hk6)
            clear hS6 hg6 hk6
            go_wp2_with fail
            go_roundw
            case rel =>
              refine ⟨k + 1, _, hkn, by go_num, H6.out.1, fun x => ?_, fun j v hj hv => ?_, H6.out.2⟩
              · rw [insL_mem, Hk.out.1 x, List.take_add_one, Hu.out]
                simp only [Option.toList_some, List.mem_append, List.mem_singleton]
                exact Or.comm
              · by_cases e : j = k
                · subst e
                  rw [Hu.out] at hv
                  cases hv; exact Hb2.out
                · exact Hk.out.2.1 j v (by omega) hv
            case measure => simp [intOf]; omega
          · have q2 : (xa != ca) = true := by simp [hxa]
            have Hb2 : Hid (countsOf code (head : Int) mem backs = (72, (u : Int))) := countsOf_back HopI.out Hu.out Hk.out.2.1 (by rw [Hbad.out, q1, q2]; rfl)
            clear h18 hxa
            go_wp2_with (go_quiet (fail))
            refine bodyPost_ret (results_tmp2 rfl _ _ _) rfl ?_
            rw [Hb2.out]
            exact ⟨rfl, below_drewN HCk.out.below _⟩
        · have q1 : (xop != 18) = true := by simp [h18]
          have Hb2 : Hid (countsOf code (head : Int) mem backs = (72, (u : Int))) := countsOf_back HopI.out Hu.out Hk.out.2.1 (by rw [Hbad.out, q1]; rfl)
          clear h18
          go_wp2_with (go_quiet (fail))
          refine bodyPost_ret (results_tmp2 rfl _ _ _) rfl ?_
          rw [Hb2.out]
          exact ⟨rfl, below_drewN HCk.out.below _⟩
      · obtain rfl : nb = k := by omega
        have HS2 : Hid (∀ x, x ∈ S ↔ x ∈ backs) := fun x => by
          rw [Hk.out.1 x, List.take_of_length_le (by rw [← Hn.out.2.2]; exact Nat.le_refl _)]
        have HnoB : Hid (∀ (j : Nat) v, j < backs.length → backs[j]? = some v → badBack code (insAt code (head : Int)) v = false) := fun j v hj hv => Hk.out.2.1 j v (by rw [Hn.out.2.2]; exact hj) hv
        have hm2 := HCk.out.l2
        obtain ⟨W5, hW5⟩ : ∃ W5 : World, W5 = wr := ⟨_, rfl⟩
        subst hW5
        clear hkn hbw
        go_wp2_with fail
        go_loopw [10, 61] (fun o i wi => ∃ k : Nat, k ≤ nm ∧ o = .int .i64 (exitsTo mem cn k) ∧ i = .int .i64 (k : Int) ∧ (∀ (j : Nat) v, j < k → mem[j]? = some v → drives code (insAt code (head : Int)) backs v = false) ∧ Below W5.heap.size W5 wi) (fun _ i _ => nm - (intOf i).toNat)
        case atStart => exact ⟨0, Nat.zero_le _, rfl, rfl, fun j v h => by omega, Below.refl _ _⟩
        case round =>
          obtain ⟨k, hk, rfl, rfl, hno, hbk⟩ := hrel
          have hCk := HCk.out.keep (Keep.of_below hbk) (by omega)
          obtain ⟨f0, f1, f2, f3, f4⟩ := hCk.fn
          have c1 := hCk.c1
          have c2 := hCk.c2
          have c4 := hCk.c4
          simp only at c1 c2 c4
          have l0 := hCk.l0
          have hbw := hCk.below
          have hsw : W5.heap.size ≤ wr.heap.size := hbk.size
          have hSr := HS.out.later hbk (by omega)
          have hex := exitsTo_range mem cn k
          have Hk2 := Lib.hid (And.intro hno hbk)
          have HCr := Lib.hid hCk
          have HSr := Lib.hid hSr
          have Hex := Lib.hid hex
          clear hno hbk hCk hSr
          by_cases hkn : k < nm
          · obtain ⟨gm, om, rfl, hgm, hcm⟩ := Ham.out (by omega)
            obtain ⟨u, hu⟩ : ∃ u, mem[k]? = some u := ⟨_, List.getElem?_eq_getElem (by rw [← Hn.out.2.1]; exact hkn)⟩
            have hur := Hr.out.1 u (List.mem_of_getElem? hu)
            obtain ⟨hu0, hun⟩ := hur
            obtain ⟨u, rfl⟩ := Int.eq_ofNat_of_zero_le hu0
            have huN : u < n := by omega
            have hcu : wr.cell? ⟨gm, om + k, none⟩ = some (.int .i64 (u : Int)) := (hbw.cell (p := ⟨gm, om + k, none⟩) hgm).trans (hcm k _ (by simp [intVs, hu]))
            obtain ⟨i0, i1, i2, i3, i4⟩ := ins_cells (SliceIn.later Hc.out hbw) (u := u) (by rw [← Hn.out.1]; exact huN)
            have hxe := exitsTo_succ (n := cn) hu
            obtain ⟨x, hx⟩ : ∃ x, x = insAt code (u : Int) := ⟨_, rfl⟩
            rw [← hx] at i0 i1 i2 i3 i4
            obtain ⟨xop, xa, xb, xc, xn⟩ := x
            simp only at i0 i1 i2 i3 i4
            obtain ⟨wv, hwv⟩ : ∃ wv, wv = writesI xop xa := ⟨_, rfl⟩
            have hdr : drives code (insAt code (head : Int)) backs (u : Int) = ((wv == ca && decide (0 ≤ wv) && !decide ((u : Int) ∈ S)) || (wv == cb' && decide (0 ≤ wv))) := by
              unfold drives; rw [← hx, ← Hcd.out, hwv]
              have : decide ((u : Int) ∈ backs) = decide ((u : Int) ∈ S) := by rw [Bool.eq_iff_iff]; simp [HS2.out]
              rw [this]
            have Hdr := Lib.hid hdr
            have Hu := Lib.hid hu
            have Hxe := Lib.hid hxe
            have Hwv := Lib.hid hwv
            have Hwr : Hid (WritesIn wr) := Hw.out.next hbw
            generalize exitsTo mem cn k = ex at Hxe Hex hex
            clear hdr hu hx hcm hun hu0 hbw hxe hwv hex
            go_wp2_with fail
            refine (writes_any ⟨xop, xa, xb, xc, xn⟩ _ Hwr.out).mono ?_
            rintro e w6 ⟨rfl, hb6⟩
            rw [← Hwv.out]
            have HS6 := Lib.hid (HSr.out.later hb6 (by omega))
            have H6 := Lib.hid (Hk2.out.2.trans (hb6.mono hsw))
            have c16 := (hb6.cell (p := ⟨w.heap.size + 2, 1, none⟩) (by show w.heap.size + 2 < _; omega)).trans c1
            have c26 := (hb6.cell (p := ⟨w.heap.size + 2, 2, none⟩) (by show w.heap.size + 2 < _; omega)).trans c2
            have c46 := (hb6.cell (p := ⟨w.heap.size + 2, 4, none⟩) (by show w.heap.size + 2 < _; omega)).trans c4
            have hs6 : wr.heap.size ≤ w6.heap.size := hb6.size
            obtain ⟨is, his⟩ : ∃ is, is = decide ((u : Int) ∈ S) := ⟨_, rfl⟩
            have His := Lib.hid his
            have Hdr2 : Hid (drives code (insAt code (head : Int)) backs (u : Int) = ((wv == ca && decide (0 ≤ wv) && !is) || (wv == cb' && decide (0 ≤ wv)))) := by show _ = _; rw [his]; exact Hdr.out
            have hlt6 : w.heap.size + 2 < w6.heap.size := by omega
            have Hd0 : Hid (decide ((u : Int) ∈ S) = is) := his.symm
            have HA : Hid (Below W5.heap.size W5 (w6.alloc (.cells #[] 64))) := H6.out.alloc (Nat.le_trans hsw hs6) _
            clear hb6 c1 c2 c4 his
            go_upto_region 18 with (at_lookup; refine set_look rfl _ _ rfl (w.heap.size + 3) S rfl HS6.out (u : Int) rfl (by omega) is Hd0.out ?_)
            go_cut [15, 71, 74, 76, 98] (fun i _ _ _ v wc => i = .bool is ∧ v = .bool ((wv == ca && decide (0 ≤ wv) && !is) || (wv == cb' && decide (0 ≤ wv))) ∧ Below W5.heap.size W5 wc)
            case first =>
              cases hb1 : (wv == ca) <;> cases hb2 : decide ((0 : Int) ≤ wv) <;> cases hb3 : is <;> cases hb4 : (wv == cb')
              all_goals
                go_wp2_with fail
                go_meet
                case rel => exact ⟨by simp [hb3], by simp [hb1, hb2, hb3, hb4], HA.out⟩
            case rest =>
              obtain ⟨rfl, rfl, hbc⟩ := hcut
              rw [← Hdr2.out]
              have hCc := HCk.out.keep (Keep.of_below hbc) (by omega)
              have c46 := hCc.c4
              simp only at c46
              have Hbc := Lib.hid hbc
              have HCc := Lib.hid hCc
              clear hbc hCc i0 i1 i2 i3 i4
              by_cases hd : drives code (insAt code (head : Int)) backs (u : Int) = true
              · have Hres : Hid (countsOf code (head : Int) mem backs = (73, (u : Int))) := countsOf_drive HopI.out HnoB.out Hu.out Hk2.out.1 hd
                rw [hd]
                clear hd
                go_wp2_with fail
                refine bodyPost_ret (results_tmp2 rfl _ _ _) rfl ?_
                rw [Hres.out]
                exact ⟨rfl, HCc.out.below⟩
              · rw [Bool.not_eq_true] at hd
                have Hd := Lib.hid hd
                rw [hd]
                clear hd
                by_cases hun : (u : Int) = cn
                · have q : ((u : Int) == cn) = true := by simp [hun]
                  have Hx2 := Hxe.out
                  rw [if_pos hun] at Hx2
                  have Hx2 := Lib.hid Hx2
                  clear hun
                  go_wp2_with fail
                  go_roundw
                  case rel =>
                    refine ⟨k + 1, hkn, by rw [Hx2.out], by go_num, fun j v hj hv => ?_, Hbc.out⟩
                    by_cases e : j = k
                    · subst e
                      rw [Hu.out] at hv
                      cases hv; exact Hd.out
                    · exact Hk2.out.1 j v (by omega) hv
                  case measure => simp [intOf]; omega
                · have q : ((u : Int) == cn) = false := by simp [hun]
                  have Hx2 := Hxe.out
                  rw [if_neg hun] at Hx2
                  have Hx2 := Lib.hid Hx2
                  clear hun
                  go_wp2_with fail
                  go_roundw
                  case rel =>
                    refine ⟨k + 1, hkn, by rw [Hx2.out], by go_num, fun j v hj hv => ?_, Hbc.out⟩
                    by_cases e : j = k
                    · subst e
                      rw [Hu.out] at hv
                      cases hv; exact Hd.out
                    · exact Hk2.out.1 j v (by omega) hv
                  case measure => simp [intOf]; omega
          · obtain rfl : nm = k := by omega
            have hend := countsOf_end (mem := mem) HopI.out HnoB.out (fun j v hj hv => Hk2.out.1 j v (by rw [Hn.out.2.1]; exact hj) hv)
            have hex2 : exitsTo mem cn nm = if mem.any (fun u => u == (insAt code (head : Int)).n) then 74 else 0 := by
              unfold exitsTo
              rw [List.take_of_length_le (by rw [← Hn.out.2.1]; exact Nat.le_refl _), ← Hcd.out]
            cases hany : mem.any (fun u => u == (insAt code (head : Int)).n)
            · rw [hany] at hend hex2
              rw [if_neg (by simp)] at hend hex2
              have Hend := Lib.hid hend
              rw [hex2]
              clear hend hex2 hex hany
              go_wp2_with fail
              refine bodyPost_ret (results_tmp2 rfl _ _ _) rfl ?_
              rw [Hend.out]
              exact ⟨rfl, HCr.out.below⟩
            · rw [hany] at hend hex2
              rw [if_pos rfl] at hend hex2
              have Hend := Lib.hid hend
              rw [hex2]
              clear hend hex2 hex hany
              go_wp2_with (go_quiet (fail))
              refine bodyPost_ret (results_tmp2 rfl _ _ _) rfl ?_
              rw [Hend.out]
              exact ⟨rfl, below_drewN HCr.out.below _⟩
  · have hq : (cop != 17) = true := by simp [hop]
    have Hres := Lib.hid (countsOf_head (code := code) (head := (head : Int)) (mem := mem) (backs := backs) (by rw [← Hcd.out]; exact hop))
    clear hop
    go_enter Tryd.func24, Tryd.ntmps24
    go_wp2_with (go_quiet (fail))
    refine bodyPost_ret (results_tmp2 rfl _ _ _) rfl ?_
    rw [Hres.out]
    exact ⟨rfl, below_drewN (by repeat first | exact Below.refl _ _ | refine Below.alloc ?_ (by (try simp only [World.size_alloc]); (try simp only [size_set]); omega) _) _⟩
end Go.Proofs.YtapjdndcnenadaaDoor
