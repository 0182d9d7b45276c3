/- ranges: one more function behind a program: the plain law. -/
import Derived.Test.YtgcplcffejbniaaRgWrap
import Derived.Test.YtgcplcffejbniaaNmBrkM
import Derived.Test.YtgcplcffejbniaaRgAwk
namespace Go.Proofs.Ytgcplcffejbniaa
open Go.RowKit Go.Maps

def argX : Ex := numX 9223372036854775807
def moreX (s : ByteArray) (k : Nat) : Ex := .mk 4 0 s (List.replicate k argX)
def moreC (s : ByteArray) (k : Nat) : St := .mk 10 ⟨#[]⟩ 0 (moreX s k) zeroX [] [] []
def moreF (s : ByteArray) (k : Nat) : St := .mk 7 nameI 0 (numX 0) (numX 3) [moreC s k] [] []
def moreA (size : Int) : St := .mk 2 nameT size zeroX zeroX [] [] []
def moreB (s : ByteArray) (k : Nat) (size : Int) : List St := [moreF s k, moreA size]
def moreFn (s : ByteArray) (k : Nat) (size : Int) : Fn := ⟨nameZ, [], moreB s k size⟩
def Pg.more (p : Pg) (g : Fn) : Pg := ⟨p.widen, p.funcs ++ [g]⟩
theorem args_totals (k : Nat) : Ex.totals (List.replicate k argX) = k := by
  induction k with
  | zero => rfl
  | succ k ih =>
    have h : argX.total = 1 := rfl
    simp only [List.replicate_succ, Ex.totals, ih, h]; omega
theorem args_errs (k : Nat) : Ex.errs (List.replicate k argX) 4 = 0 := by
  induction k with
  | zero => simp [Ex.errs]
  | succ k ih =>
    have h : argX.err 4 = 0 := by kernel_rfl
    simp only [List.replicate_succ, Ex.errs, ih, h]; simp
theorem args_nerrs (K : Known) (G : List ByteArray) (k : Nat) : Ex.nerrs K G (List.replicate k argX) = 0 := by
  induction k with
  | zero => simp [Ex.nerrs]
  | succ k ih =>
    have h : argX.nerr K G = 0 := by simp [argX, numX, Ex.nerr, Ex.nown, Ex.kind, Ex.nerrs]
    simp only [List.replicate_succ, Ex.nerrs, ih, h]; simp
theorem args_ncalls (k : Nat) : Ex.ncallss (List.replicate k argX) = [] := by
  induction k with
  | zero => simp [Ex.ncallss]
  | succ k ih =>
    have h : argX.ncalls = [] := by simp [argX, numX, Ex.ncalls, Ex.ncallss]
    simp only [List.replicate_succ, Ex.ncallss, ih, h]; simp
theorem args_cnt (ar : ByteArray → Int) (k : Nat) : Ex.evrs (cntQ ar) (List.replicate k argX) = true := by
  induction k with
  | zero => simp [Ex.evrs]
  | succ k ih =>
    have h : argX.evr (cntQ ar) = true := by unfold argX; rw [numX_evr]; rfl
    simp only [List.replicate_succ, Ex.evrs, ih, h]; simp
theorem moreX_err {s : ByteArray} (hs : nameB s = true) (k : Nat) : (moreX s k).err 3 = 0 := by
  have h := args_errs k
  simp [moreX, Ex.err, Ex.own, Ex.badForm, namedB, hs, Ex.kind, Ex.n, Ex.name, Ex.args, kindB, arityN, h]
theorem moreB_totals (s : ByteArray) (k : Nat) (size : Int) : St.totals (moreB s k size) ≤ k + 10 := by
  have h := args_totals k
  have h0 : (numX 0).part = 1 := rfl
  have h3 : (numX 3).part = 1 := rfl
  have hz : zeroX.part = 0 := rfl
  have hx : (moreX s k).part = 1 + k := by
    have hn : (moreX s k).zero = false := by simp [Ex.zero, moreX, Ex.kind]
    unfold Ex.part
    rw [hn, Ex.total_eq]
    simp only [moreX, Ex.args, h]; rfl
  simp only [moreB, moreF, moreC, moreA, St.totals, St.total, Cs.totals, h0, h3, hz, hx]
  omega
theorem moreC_chk {s : ByteArray} (hs : nameB s = true) (k : Nat) : (moreC s k).chk 2 = (1, 0) := by
  have e : (moreC s k).front 2 = 0 := by
    have h1 : (moreC s k).own = 0 := by
      simp [St.own, St.formed, moreC, moreX, zeroX, knownS, cntName, cntN, cntA, cntB, cntBody, cntElse, cntCases, St.kind, St.name, St.n, St.a, St.b, St.body, St.els, St.cases, Ex.zero, Ex.kind, Ex.n, Ex.name, Ex.args, lowestB]
      rfl
    unfold St.front
    rw [if_neg (by decide), h1, if_neg (by simp)]
    have e1 : (moreC s k).a = moreX s k := rfl
    rw [e1, show (2 : Int) + 1 = 3 from rfl, moreX_err hs, if_neg (by simp)]
    rw [if_neg (by simp [cntB, moreC, St.kind])]
  rw [St.chk_eq, e]
  simp only [moreC, St.body, St.cases, St.els, St.chks, Cs.chks]
  rfl
theorem moreF_chk {s : ByteArray} (hs : nameB s = true) (k : Nat) : (moreF s k).chk 1 = (2, 0) := by
  have e : (moreF s k).front 1 = 0 := by
    have h1 : (moreF s k).own = 0 := by
      have hi : nameB nameI = true := by kernel_rfl
      simp [St.own, St.formed, moreF, knownS, cntName, cntN, cntA, cntB, cntBody, cntElse, cntCases, St.kind, St.name, St.n, St.a, St.b, St.body, St.els, St.cases, Ex.zero, Ex.kind, Ex.n, Ex.name, Ex.args, lowestB, hi]
    unfold St.front
    rw [if_neg (by decide), h1, if_neg (by simp)]
    have e1 : (moreF s k).a = numX 0 := rfl
    have e2 : (moreF s k).b = numX 3 := rfl
    have e3 : (numX 0).err 2 = 0 := by kernel_rfl
    have e4 : (numX 3).err 2 = 0 := by kernel_rfl
    rw [e1, e2, show (1 : Int) + 1 = 2 from rfl, e3, e4, if_neg (by simp), if_neg (by simp)]
  rw [St.chk_eq, e]
  simp only [moreF, St.body, St.cases, St.els, St.chks, Cs.chks, show (1 : Int) + 1 = 2 from rfl, moreC_chk hs, after_zero]
  rfl
theorem moreA_chk (size : Int) : (moreA size).chk 1 = (1, if size < 0 then 1 else 0) := by
  have e : (moreA size).front 1 = if size < 0 then 1 else 0 := by
    have h1 : (moreA size).own = if size < 0 then 1 else 0 := by
      have hi : nameB nameT = true := by kernel_rfl
      by_cases h : size < 0 <;> simp [St.own, St.formed, moreA, zeroX, knownS, cntName, cntN, cntA, cntB, cntBody, cntElse, cntCases, St.kind, St.name, St.n, St.a, St.b, St.body, St.els, St.cases, Ex.zero, Ex.kind, Ex.n, Ex.name, Ex.args, lowestB, hi, h] <;> rfl
    unfold St.front
    have ka : cntA (moreA size).kind = false := rfl
    have kb : cntB (moreA size).kind = false := rfl
    rw [if_neg (by decide), h1, ka, kb]
    by_cases h : size < 0 <;> simp [h]
  rw [St.chk_eq, e]
  simp only [moreA, St.body, St.cases, St.els, St.chks, Cs.chks, after_zero]
theorem moreB_chks {s : ByteArray} (hs : nameB s = true) (k : Nat) (size : Int) : St.chks (moreB s k size) 1 = (3, if size < 0 then 1 else 0) := by
  simp only [moreB, St.chks, moreF_chk hs, moreA_chk, after_zero]
  rfl
/-- One more function with an empty form of its own. -/
theorem more_fault {p : Pg} {g : Fn} (h1 : p.fault.1 = 0) (hl : p.funcs.length < 32) (hc : Fn.count p.funcs + St.totals g.body ≤ 4096) : (p.more g).fault = g.fault p.funcs.length ∨ ((g.fault p.funcs.length).1 = 0 ∧ (p.more g).fault = (0, 0, 0)) := by
  unfold Pg.fault at h1 ⊢
  by_cases h0 : p.headErr = 0
  · rw [if_neg (by rw [h0]; decide)] at h1
    have hh : (p.more g).headErr = 0 := by
      unfold Pg.headErr at h0 ⊢
      show (if 16 < p.widen.length then (3 : Int) else if leastB p.widen = true then 1 else if riseB p.widen = false then 66 else if 32 < (p.funcs ++ [g]).length ∨ 4096 < upto (Fn.count (p.funcs ++ [g])) then 3 else 0) = 0
      split at h0
      · omega
      rename_i a1
      split at h0
      · omega
      rename_i a2
      split at h0
      · omega
      rename_i a3
      rw [if_neg a1, if_neg a2, if_neg a3, if_neg]
      rintro (h | h)
      · simp at h; omega
      · rw [Fn.count_snoc] at h; unfold upto at h; omega
    rw [if_neg (by rw [hh]; decide)]
    have old : ∀ (j : Nat) y, j < p.funcs.length → (p.more g).funcs[j]? = some y → (y.fault (0 + j)).1 = 0 := fun j y hj hy => by
      have : p.funcs[j]? = some y := by
        have h : (p.funcs ++ [g])[j]? = some y := hy
        rwa [List.getElem?_append_left hj] at h
      exact Fn.faults_all h1 j y this
    have hlast : (p.more g).funcs[p.funcs.length]? = some g := by show (p.funcs ++ [g])[p.funcs.length]? = some g; simp
    by_cases hg : (g.fault p.funcs.length).1 = 0
    · refine .inr ⟨hg, Fn.faults_none fun j y hy => ?_⟩
      by_cases hj : j < p.funcs.length
      · exact old j y hj hy
      · have hj2 := (List.getElem?_eq_some_iff.1 hy).1
        have e : j = p.funcs.length := by have : (p.more g).funcs.length = p.funcs.length + 1 := by simp [Pg.more]
                                          omega
        subst e
        rw [hlast] at hy; cases hy
        rw [Nat.zero_add]; exact hg
    · refine .inl ?_
      rw [Fn.faults_hit hlast (fun j y hj hy => old j y hj hy) (by rw [Nat.zero_add]; exact hg), Nat.zero_add]
  · rw [if_pos h0] at h1; exact absurd h1 h0
theorem moreFn_fault {s : ByteArray} (hs : nameB s = true) (k : Nat) (size : Int) (n : Nat) : (moreFn s k size).fault n = if size < 0 then (1, (n : Int), 3) else (0, 0, 0) := by
  have hf : (moreFn s k size).face = 0 := by
    have hz : nameB nameZ = true := by kernel_rfl
    simp [Fn.face, moreFn, hz, Pm.errs]
  unfold Fn.fault
  rw [if_neg (by rw [hf]; decide)]
  show (if (St.chks (moreB s k size) 1).2 ≠ 0 then ((St.chks (moreB s k size) 1).2, (n : Int), ((St.chks (moreB s k size) 1).1 : Int)) else ((0, 0, 0) : Flt)) = _
  rw [moreB_chks hs]
  by_cases h : size < 0 <;> simp [h]
theorem more_fault_eq {p : Pg} {s : ByteArray} {k : Nat} {size : Int} (hs : nameB s = true) (h1 : p.fault.1 = 0) (hl : p.funcs.length < 32) (hc : Fn.count p.funcs ≤ 4066) (hk : k ≤ 20) : (p.more (moreFn s k size)).fault = if size < 0 then (1, (p.funcs.length : Int), 3) else (0, 0, 0) := by
  have ht := moreB_totals s k size
  rcases more_fault (g := moreFn s k size) h1 hl (by show Fn.count p.funcs + St.totals (moreB s k size) ≤ 4096; omega) with h | ⟨h, h2⟩
  · rw [h, moreFn_fault hs]
  · rw [h2]
    rw [moreFn_fault hs] at h
    by_cases h3 : size < 0
    · rw [if_pos h3] at h; exact absurd h (by simp)
    · rw [if_neg h3]
theorem moreC_nchk (K : Known) (G : List ByteArray) (s : ByteArray) (k : Nat) (hs : s ∈ G) : (moreC s k).nchk K G 1 = (1, 0) := by
  have ha := args_nerrs K G k
  rw [St.nchk_eq]
  have e : (moreC s k).nfirst K G 1 = 0 := by
    simp [St.nfirst, St.nlead, moreC, moreX, St.kind, St.a, Ex.nerr, Ex.nown, Ex.kind, Ex.name, hs, ha]
  have e2 : (moreC s k).nadd K = K := by simp [St.nadd, moreC, St.kind]
  rw [e, e2]
  simp only [moreC, St.kind, St.body, St.cases, St.els, St.name, St.nchks, Cs.nchks, after_zero]
  rfl
theorem numX_nerr (K : Known) (G : List ByteArray) (n : Int) : (numX n).nerr K G = 0 := by simp [numX, Ex.nerr, Ex.nown, Ex.kind, Ex.nerrs]
theorem moreF_nchk (G : List ByteArray) (s : ByteArray) (k : Nat) (hs : s ∈ G) : (moreF s k).nchk [] G 0 = (2, 0) := by
  rw [St.nchk_eq]
  have e : (moreF s k).nfirst [] G 0 = 0 := by
    have e1 : (moreF s k).a = numX 0 := rfl
    have e2 : (moreF s k).b = numX 3 := rfl
    have e3 : (moreF s k).kind = 7 := rfl
    have e4 : (moreF s k).nlead [] = 0 := rfl
    unfold St.nfirst
    rw [e1, e2, e3, e4, numX_nerr, numX_nerr]
    rfl
  rw [e]
  have e5 : (moreF s k).kind = 7 := rfl
  have e6 : (moreF s k).body = [moreC s k] := rfl
  have e7 : kindOf [] (moreF s k).name = 0 := rfl
  rw [if_pos e5, if_neg (by rw [e7]; decide), e6]
  simp only [St.nchks, after_zero, List.nil_append, show (0 : Int) + 1 = 1 from rfl, moreC_nchk _ G s k hs]
  rfl
theorem moreA_nchk (G : List ByteArray) (size : Int) : (moreA size).nchk [] G 0 = (1, 0) := by
  rw [St.nchk_eq]
  rfl
theorem moreB_nchks (G : List ByteArray) (s : ByteArray) (k : Nat) (size : Int) (hs : s ∈ G) : St.nchks [] G 0 (moreB s k size) = (3, 0) := by
  have e : (moreF s k).nadd [] = [] := rfl
  simp only [moreB, St.nchks, e, moreF_nchk G s k hs, moreA_nchk, after_zero]
  rfl
theorem moreFn_nfault (G : List ByteArray) (s : ByteArray) (k : Nat) (size : Int) (hs : s ∈ G) (n : Nat) : (moreFn s k size).nfault G n = if nameZ ∈ G then (9, (n : Int), 0) else (0, 0, 0) := by
  unfold Fn.nfault
  show (if nameZ ∈ G ∨ twiceB [] [] = true then _ else if (St.nchks [] G 0 (moreB s k size)).2 ≠ 0 then _ else ((0, 0, 0) : Flt)) = _
  rw [moreB_nchks G s k size hs]
  by_cases h : nameZ ∈ G <;> simp [h, twiceB]
theorem more_last (p : Pg) (g : Fn) : (p.more g).funcs[p.funcs.length]? = some g := by show (p.funcs ++ [g])[p.funcs.length]? = some g; simp
theorem more_old {p : Pg} {g : Fn} {j : Nat} (h : j < p.funcs.length) : (p.more g).funcs[j]? = p.funcs[j]? := List.getElem?_append_left h
theorem more_gAt {p : Pg} {g : Fn} {j : Nat} (h : j ≤ p.funcs.length) : gAt (p.more g).funcs j = gAt p.funcs j := by
  unfold gAt Pg.more
  rw [List.take_append_of_le_length h]
theorem more_take {p : Pg} {g : Fn} {j : Nat} (h : j ≤ p.funcs.length) : (p.more g).funcs.take j = p.funcs.take j := List.take_append_of_le_length h
theorem more_at {p : Pg} {g : Fn} {j : Nat} {y : Fn} (h : (p.more g).funcs[j]? = some y) : (j < p.funcs.length ∧ p.funcs[j]? = some y) ∨ (j = p.funcs.length ∧ y = g) := by
  by_cases hj : j < p.funcs.length
  · exact .inl ⟨hj, by rwa [more_old hj] at h⟩
  · have hj2 := (List.getElem?_eq_some_iff.1 h).1
    have e : j = p.funcs.length := by have : (p.more g).funcs.length = p.funcs.length + 1 := by simp [Pg.more]
                                      omega
    subst e
    rw [more_last] at h
    cases h
    exact .inr ⟨rfl, rfl⟩
theorem more_nfault {p : Pg} {g : Fn} (h1 : p.fault.1 = 0) (h : p.nfault.1 = 0) (h2 : (p.more g).fault.1 = 0) : ((g.nfault (gAt p.funcs p.funcs.length) p.funcs.length).1 = 0 → (p.more g).nfault = (0, 0, 0)) ∧ ((g.nfault (gAt p.funcs p.funcs.length) p.funcs.length).1 ≠ 0 → (p.more g).nfault = g.nfault (gAt p.funcs p.funcs.length) p.funcs.length) := by
  rw [Pg.nfault_ok h2]
  have old : ∀ (j : Nat) y, j < p.funcs.length → (p.more g).funcs[j]? = some y → (y.nfault ([] ++ gAt (p.more g).funcs j) (0 + j)).1 = 0 := fun j y hj hy => by
    rw [more_old hj] at hy
    rw [more_gAt (Nat.le_of_lt hj), List.nil_append, Nat.zero_add]
    exact Pg.nfault_all h1 h j y hy
  have e : ([] ++ gAt (p.more g).funcs p.funcs.length) = gAt p.funcs p.funcs.length := by rw [more_gAt (Nat.le_refl _), List.nil_append]
  refine ⟨fun hg => Fn.nfaults_none fun j y hy => ?_, fun hg => ?_⟩
  · rcases more_at hy with ⟨hj, _⟩ | ⟨rfl, rfl⟩
    · exact old j y hj hy
    · rw [e, Nat.zero_add]; exact hg
  · rw [Fn.nfaults_hit (more_last p g) (fun j y hj hy => old j y hj hy) (by rw [e, Nat.zero_add]; exact hg), e, Nat.zero_add]
theorem more_rfault {p : Pg} {g : Fn} (h : p.rfault.1 = 0) (h2 : (p.more g).nfault.1 = 0) : ((g.rfault p.funcs p.funcs.length).1 = 0 → (p.more g).rfault = (0, 0, 0)) ∧ ((g.rfault p.funcs p.funcs.length).1 ≠ 0 → (p.more g).rfault = g.rfault p.funcs p.funcs.length) := by
  obtain ⟨h3, h4⟩ := Pg.fault_of_rfault h
  rw [Pg.rfault_ok h2]
  rw [Pg.rfault_ok h4] at h
  have all : ∀ (j : Nat) y, p.funcs[j]? = some y → (y.rfault (p.funcs.take j) j).1 = 0 := fun j y hy => by
    rcases Fn.rfaults_cases [] p.funcs 0 with hn | ⟨i, x, hx, h0, hz⟩
    · simpa using hn j y hy
    · rw [Fn.rfaults_hit hx h0 hz] at h; exact absurd h hz
  have old : ∀ (j : Nat) y, j < p.funcs.length → (p.more g).funcs[j]? = some y → (y.rfault ([] ++ (p.more g).funcs.take j) (0 + j)).1 = 0 := fun j y hj hy => by
    rw [more_old hj] at hy
    rw [more_take (Nat.le_of_lt hj), List.nil_append, Nat.zero_add]
    exact all j y hy
  have e : ([] ++ (p.more g).funcs.take p.funcs.length) = p.funcs := by rw [more_take (Nat.le_refl _), List.nil_append, List.take_length]
  refine ⟨fun hg => Fn.rfaults_none fun j y hy => ?_, fun hg => ?_⟩
  · rcases more_at hy with ⟨hj, _⟩ | ⟨rfl, rfl⟩
    · exact old j y hj hy
    · rw [e, Nat.zero_add]; exact hg
  · rw [Fn.rfaults_hit (more_last p g) (fun j y hj hy => old j y hj hy) (by rw [e, Nat.zero_add]; exact hg), e, Nat.zero_add]
theorem moreC_rchk (R : List ByteArray) (ar : ByteArray → Int) (s : ByteArray) (k : Nat) : (moreC s k).rchk R ar = (1, if (k : Int) = ar s then 0 else 41) := by
  have hz : zeroX.evr (cntQ ar) = true := by rw [zeroX_evr]; rfl
  have hx : (moreX s k).evr (cntQ ar) = decide ((k : Int) = ar s) := by
    rw [Ex.evr_eq]
    have h := args_cnt ar k
    simp [moreX, Ex.args, cntQ, Ex.kind, Ex.name, h]
  have e : (moreC s k).rown R ar = if (k : Int) = ar s then 0 else 41 := by
    have e1 : (moreC s k).kind = 10 := rfl
    have e2 : (moreC s k).a = moreX s k := rfl
    have e3 : (moreC s k).b = zeroX := rfl
    unfold St.rown
    rw [e1, e2, e3, if_neg (by rintro ⟨h, _⟩; omega), if_neg (by rintro ⟨h, _⟩; omega), if_neg (by rintro ⟨h, _⟩; omega), hx, hz]
    by_cases h : (k : Int) = ar s <;> simp [h]
  rw [St.rchk_eq, e]
  simp only [moreC, St.body, St.cases, St.els, St.rchks, Cs.rchks, after_zero]
theorem moreF_rchk (ar : ByteArray → Int) (s : ByteArray) (k : Nat) : (moreF s k).rchk [] ar = (2, if (k : Int) = ar s then 0 else 41) := by
  have hn : ∀ n, (numX n).evr (cntQ ar) = true := fun n => by rw [numX_evr]; rfl
  have hb : ∀ R n, (numX n).evr (bndQ R) = true := fun R n => by rw [numX_evr]; rfl
  have e : (moreF s k).rown [] ar = 0 := by
    have e1 : (moreF s k).kind = 7 := rfl
    have e2 : (moreF s k).a = numX 0 := rfl
    have e3 : (moreF s k).b = numX 3 := rfl
    unfold St.rown
    rw [e1, e2, e3, if_neg (by rintro ⟨h, _⟩; omega), if_neg (by rintro ⟨h, _⟩; omega), if_neg (by rintro ⟨_, h⟩; exact h ⟨hb _ 0, hb _ 3⟩), if_pos ⟨hn 0, hn 3⟩]
  rw [St.rchk_eq, e]
  simp only [moreF, St.body, St.cases, St.els, St.rchks, Cs.rchks, after_zero, moreC_rchk]
  rfl
theorem moreA_rchk (ar : ByteArray → Int) (size : Int) : (moreA size).rchk [] ar = (1, if size < 1 ∨ 1024 < size then 1 else 0) := by
  have hz : zeroX.evr (cntQ ar) = true := by rw [zeroX_evr]; rfl
  have e : (moreA size).rown [] ar = if size < 1 ∨ 1024 < size then 1 else 0 := by
    have e1 : (moreA size).kind = 2 := rfl
    have e2 : (moreA size).a = zeroX := rfl
    have e3 : (moreA size).b = zeroX := rfl
    have e4 : (moreA size).n = size := rfl
    unfold St.rown
    rw [e1, e2, e3, e4, hz]
    by_cases h : size < 1 ∨ 1024 < size <;> simp [h]
  rw [St.rchk_eq, e]
  simp only [moreA, St.body, St.cases, St.els, St.rchks, Cs.rchks, after_zero]
theorem moreB_rchks (ar : ByteArray → Int) (s : ByteArray) (k : Nat) (size : Int) : St.rchks [] ar (moreB s k size) = if (k : Int) = ar s then (3, if size < 1 ∨ 1024 < size then 1 else 0) else (2, 41) := by
  have e : (moreF s k).radd [] = [nameI] := rfl
  simp only [moreB, St.rchks, moreF_rchk, moreA_rchk, after_zero]
  by_cases h : (k : Int) = ar s
  · simp [h, after]
  · simp [h, after]
theorem moreFn_rfault (F : List Fn) (s : ByteArray) (k : Nat) (size : Int) (n : Nat) : (moreFn s k size).rfault F n = if (k : Int) ≠ arOf F s then (41, (n : Int), 2) else if size < 1 ∨ 1024 < size then (1, (n : Int), 3) else (0, 0, 0) := by
  unfold Fn.rfault
  show (if emptyB [] = true then _ else if (St.rchks [] (arOf F) (moreB s k size)).2 ≠ 0 then ((St.rchks [] (arOf F) (moreB s k size)).2, (n : Int), ((St.rchks [] (arOf F) (moreB s k size)).1 : Int)) else ((0, 0, 0) : Flt)) = _
  rw [if_neg (by simp [emptyB]), moreB_rchks]
  by_cases h : (k : Int) = arOf F s
  · by_cases h2 : size < 1 ∨ 1024 < size <;> simp [h, h2]
  · simp [h]
theorem arOf_at : ∀ (l : List Fn) (j : Nat) (f : Fn), l[j]? = some f → (∀ i x, i < j → l[i]? = some x → x.name ≠ f.name) → arOf l f.name = f.params.length := by
  intro l j f hf hn
  have h : l.find? (fun x => decide (x.name = f.name)) = some f := by
    induction l generalizing j with
    | nil => simp at hf
    | cons y l ih =>
      cases j with
      | zero => simp at hf; subst hf; simp
      | succ j =>
        have h0 := hn 0 y (by omega) rfl
        rw [List.find?_cons_of_neg (by simpa using h0)]
        exact ih j (by simpa using hf) fun i x hi hx => hn (i + 1) x (by omega) (by simpa using hx)
  unfold arOf
  rw [h]
theorem names_apart {p : Pg} (h1 : p.fault.1 = 0) (h : p.nfault.1 = 0) {i j : Nat} {x y : Fn} (hi : p.funcs[i]? = some x) (hj : p.funcs[j]? = some y) (hij : i < j) : x.name ≠ y.name := fun e => by
  have hr := Fn.right (Pg.nfault_all h1 h j y hj)
  exact hr.1 (by rw [← e]; exact List.mem_of_getElem? (gAt_at hi hij))
theorem more_first (p : Pg) (g : Fn) : (p.more g).first p.funcs.length = p := by
  unfold Pg.first Pg.more
  simp
theorem more_ncallss (s : ByteArray) (k : Nat) (size : Int) : St.ncallss (moreB s k size) = [s] := by
  have h := args_ncalls k
  have hn : ∀ n, (numX n).ncalls = [] := fun n => by simp [numX, Ex.ncalls, Ex.ncallss]
  have hx : (moreX s k).ncalls = [s] := by rw [Ex.ncalls_eq]; simp [moreX, Ex.kind, Ex.name, Ex.args, h]
  simp [moreB, moreF, moreC, moreA, St.ncallss, St.ncalls, Cs.ncallss, hn, hx]
theorem moreFn_alone (s : ByteArray) (k : Nat) (size : Int) (params : Bool) : (moreFn s k size).alone params = true := by
  have hs : Ex.evrs stillQ (List.replicate k argX) = true := by
    induction k with
    | zero => simp [Ex.evrs]
    | succ k ih =>
      have h : argX.evr stillQ = true := by unfold argX; rw [numX_evr]; rfl
      simp only [List.replicate_succ, Ex.evrs, ih, h]; simp
  have hx : (moreX s k).evr stillQ = true := by
    rw [Ex.evr_eq]
    simp [moreX, Ex.args, hs]
    try rfl
  have hn : ∀ n, (numX n).evr stillQ = true := fun n => by rw [numX_evr]; rfl
  have hp : ∀ n, (numX n).evr plainQ = true := fun n => by rw [numX_evr]; rfl
  have hz : zeroX.evr stillQ = true := by rw [zeroX_evr]; rfl
  unfold Fn.alone
  show (St.ovrs (aloneQ (moreFn s k size) params) (fun u _ => u) 0 (moreB s k size) ()).2 = true
  simp [moreB, moreF, moreC, moreA, St.ovrs, Cs.ovrs, St.ovr, goOn, aloneQ, St.kind, St.a, St.b, hx, hn, hp, hz]
theorem more_straight {p : Pg} {j : Nat} {f : Fn} {k : Nat} {size : Int} (hf : p.funcs[j]? = some f) (h : p.rfault.1 = 0) (h2 : (p.more (moreFn f.name k size)).rfault.1 = 0) : (p.more (moreFn f.name k size)).straight (p.funcs.length : Int) false = p.straight (j : Int) false := by
  obtain ⟨h3, h4⟩ := Pg.fault_of_rfault h
  obtain ⟨h5, h6⟩ := Pg.fault_of_rfault h2
  have hj := (List.getElem?_eq_some_iff.1 hf).1
  obtain ⟨q, hq⟩ : ∃ q, q = p.more (moreFn f.name k size) := ⟨_, rfl⟩
  have hqf : q.first p.funcs.length = p := by rw [hq]; exact more_first _ _
  have hql : q.funcs.length = p.funcs.length + 1 := by rw [hq]; simp [Pg.more]
  have hlast : q.funcs[p.funcs.length]? = some (moreFn f.name k size) := by rw [hq]; exact more_last _ _
  have hgat : gAt q.funcs p.funcs.length = gAt p.funcs p.funcs.length := by rw [hq]; exact more_gAt (Nat.le_refl _)
  rw [← hq] at h2 h5 h6 ⊢
  have hstr : q.str false (j : Int) = p.str false (j : Int) := by
    unfold Pg.str
    have := Pg.first_strF (p := q) (n := p.funcs.length) h5 h6 false ((j : Int).toNat + 1) (j : Int) (by omega) (by omega)
    rw [hqf] at this
    exact this.symm
  have hcall : ∀ z, z ∈ q.ncalls (p.funcs.length : Int) ↔ z = (j : Int) := fun z => by
    unfold Pg.ncalls
    rw [if_neg (by rintro (e | e); exact e h6; omega)]
    simp only [Int.toNat_natCast, hlast, hgat]
    rw [callsN_mem]
    show idxs (gAt p.funcs p.funcs.length) (St.ncallss (moreB f.name k size)) z ↔ _
    rw [more_ncallss]
    constructor
    · rintro ⟨i, s, rfl, hi, hs⟩
      simp at hs
      subst hs
      have hil : i < p.funcs.length := by have := (List.getElem?_eq_some_iff.1 hi).1; simp [gAt] at this; omega
      obtain ⟨x, hx⟩ : ∃ x, p.funcs[i]? = some x := ⟨_, List.getElem?_eq_getElem hil⟩
      have e := gAt_at hx hil
      rw [hi] at e
      injection e with e
      rcases Nat.lt_trichotomy i j with h | h | h
      · exact absurd e.symm (names_apart h3 h4 hx hf h)
      · rw [h]
      · exact absurd e (names_apart h3 h4 hf hx h)
    · rintro rfl
      exact ⟨j, f.name, rfl, gAt_at hf hj, by simp⟩
  have hs2 : q.str false (p.funcs.length : Int) = p.str false (j : Int) := by
    rw [Bool.eq_iff_iff, Pg.str_iff]
    have ha : q.aloneAt false (p.funcs.length : Int) = true := by
      unfold Pg.aloneAt
      rw [Int.toNat_natCast, hlast]
      exact moreFn_alone _ _ _ _
    rw [← hstr]
    constructor
    · rintro ⟨_, h⟩
      exact h (j : Int) ((hcall _).2 rfl)
    · intro h
      refine ⟨ha, fun z hz => ?_⟩
      rw [(hcall z).1 hz]; exact h
  unfold Pg.straight
  rw [h, h2, hs2, decide_eq_true (p := 0 ≤ (p.funcs.length : Int) ∧ (p.funcs.length : Int) < (q.funcs.length : Int)) (by omega), decide_eq_true (p := 0 ≤ (j : Int) ∧ (j : Int) < (p.funcs.length : Int)) (by omega)]
/-- What the law asks for. -/
def wantT (n : Nat) (m : Nat) (k : Nat) (size : Int) : Flt := if size < 0 then (1, (n : Int), 3) else if k ≠ m then (41, (n : Int), 2) else if size < 1 ∨ 1024 < size then (1, (n : Int), 3) else (0, 0, 0)
theorem one_ne : (1 : Int) ≠ 0 := by decide
theorem arity_law {p : Pg} {j : Nat} {f : Fn} {k : Nat} {size : Int} (hf : p.funcs[j]? = some f) (h : p.rfault.1 = 0) (hl : p.funcs.length < 32) (hc : Fn.count p.funcs ≤ 4066) (hk : k ≤ 20) :
    (p.more (moreFn f.name k size)).nfault.1 = 9 ∨ ((p.more (moreFn f.name k size)).nfault.1 ≠ 9 ∧ (p.more (moreFn f.name k size)).rfault = wantT p.funcs.length f.params.length k size) := by
  obtain ⟨h3, h4⟩ := Pg.fault_of_rfault h
  have hj := (List.getElem?_eq_some_iff.1 hf).1
  have hfault := more_fault_eq (size := size) (k := k) (Pg.name_ok h3 hf) h3 hl hc hk
  by_cases hs : size < 0
  · rw [if_pos hs] at hfault
    have hn : (p.more (moreFn f.name k size)).nfault = (1, (p.funcs.length : Int), 3) := by rw [Pg.nfault_bad (by rw [hfault]; exact one_ne), hfault]
    refine .inr ⟨by rw [hn]; exact fun h => absurd (show (1 : Int) = 9 from h) (by decide), ?_⟩
    rw [Pg.rfault_bad (by rw [hn]; exact one_ne), hn]
    unfold wantT
    rw [if_pos hs]
  · rw [if_neg hs] at hfault
    have hn := more_nfault (g := moreFn f.name k size) h3 h4 (by rw [hfault])
    rw [moreFn_nfault _ _ _ _ (List.mem_of_getElem? (gAt_at hf hj))] at hn
    by_cases hz : nameZ ∈ gAt p.funcs p.funcs.length
    · rw [if_pos hz] at hn
      exact .inl (by rw [hn.2 (fun h => absurd (show (9 : Int) = 0 from h) (by decide))])
    · rw [if_neg hz] at hn
      have hn0 := hn.1 rfl
      refine .inr ⟨by rw [hn0]; decide, ?_⟩
      have hr := more_rfault (g := moreFn f.name k size) h (by rw [hn0])
      have har : arOf p.funcs f.name = f.params.length := arOf_at _ j f hf fun i x hi hx => names_apart h3 h4 hx hf hi
      rw [moreFn_rfault, har] at hr
      unfold wantT
      rw [if_neg hs]
      by_cases hk2 : k = f.params.length
      · rw [if_neg (by omega), ] at hr
        rw [if_neg (by omega)]
        by_cases h7 : size < 1 ∨ 1024 < size
        · rw [if_pos h7] at hr ⊢; exact hr.2 one_ne
        · rw [if_neg h7] at hr ⊢; exact hr.1 rfl
      · rw [if_pos (by omega)] at hr ⊢; exact hr.2 (fun h => absurd (show (41 : Int) = 0 from h) (by decide))
/-- The arguments in a row of their own. -/
def argVs (_ : Nat) : List Value := exVs argX nilV
theorem addr_add (g k : Nat) : (⟨g, 0, none⟩ : Addr).add k = ⟨g, k, none⟩ := by unfold Addr.add; split <;> simp_all
theorem args_in {w : World} {lo k : Nat} {v : Value} (h : w.ownsRow lo 43 4 v k (rowsOf argVs k)) : ExsIn w (List.replicate k argX) v := by
  have hat : ∀ i x, (List.replicate k argX)[i]? = some x → x = argX := fun i x hx => by
    have := List.mem_of_getElem? hx
    exact (List.mem_replicate.1 this).2
  refine .mk _ _ (fun _ => nilV) ?_ fun i x hx => by rw [hat i x hx]; exact exsIn_nil w
  rw [List.length_replicate]
  rcases h.2 with ⟨rfl, rfl⟩ | ⟨g, cap, cur, rfl, hg, hgh, hnc, hcm, _⟩
  · exact rowOf_nil _ _ _
  · refine ⟨_, cap, rfl, hnc, hcm, by simp, fun _ => ⟨g, 0, rfl, (Array.getElem?_eq_some_iff.1 hgh).1, fun i hi x hx => ?_⟩⟩
    rw [hat i x hx]
    have k : ∀ (j : Nat) u, j < 4 → (exVs argX nilV)[j]? = some u → w.cell? ⟨g, 0 + i * 4 + j, none⟩ = some u := fun j u hj hu => by
      have hc := World.ownsRow.cells h (g := g) rfl (i * 4 + j) u (by rw [rowsOf_get (size := 4) (fun _ _ => rfl) i j hi hj]; exact hu)
      rw [show 0 + i * 4 + j = i * 4 + j by omega]; rw [addr_add] at hc; exact hc
    exact ⟨k 0 _ (by decide) rfl, k 1 _ (by decide) rfl, k 2 _ (by decide) rfl, k 3 _ (by decide) rfl⟩
theorem fns_cut {w : World} {lo g n cap k size : Nat} {e : TypeId} {xs ys : List Value} (h : w.ownsRow lo e size (.slice (some ⟨g, 0, none⟩) (n + k) cap) (n + k) (xs ++ ys)) (hx : xs.length = n * size) : w.ownsRow lo e size (.slice (some ⟨g, 0, none⟩) n cap) n xs := by
  refine ⟨hx, .inr ?_⟩
  rcases h.2 with ⟨h1, _⟩ | ⟨g', c', cur, hv, hg, hgh, hnc, hcm, hsz, ht⟩
  · cases h1
  · cases hv
    refine ⟨_, _, cur, rfl, hg, hgh, by omega, hcm, hsz, ?_⟩
    have e : (xs ++ ys).take (n * size) = xs := by rw [← hx]; simp
    rw [← e, ← ht, List.take_take, Nat.min_eq_left (Nat.mul_le_mul_right _ (Nat.le_add_right n k))]
/-- One more function behind a program in memory of its own. -/
theorem more_in {w0 w' : World} {lo mid : Nat} {p : Pg} {gw cw g cap : Nat} {vp vb : Nat → Value} {q m0 m1 gp cp : Nat → Nat} (h : OwnPg w0 lo mid p gw cw g cap vp vb q m0 m1 gp cp) (hs : w0.heap.size ≤ w'.heap.size) (hk : ∀ k, k < w0.heap.size → k ≠ g → w'.heap[k]? = w0.heap[k]?)
    {lo2 : Nat} {v' : Value} {f : Fn} {vp' vb' : Value} (hown : w'.ownsRow lo2 40 3 v' (p.funcs.length + 1) (rowsOf (fnRow p.funcs vp vb) p.funcs.length ++ [.string f.name, vp', vb'])) (hpm : RowOf w' vp' f.params.length 3 (fun b o k => ∀ y, f.params[k]? = some y → PmAt w' b o y)) (hbd : StsIn w' f.body vb') :
    PgIn w' (p.more f) (.slice (some ⟨gw, 0, none⟩) p.widen.length cw) v' (fun i => if i < p.funcs.length then vp i else vp') (fun i => if i < p.funcs.length then vb i else vb') := by
  have hgm := h.fns.hg
  have hfw := h.hw
  have hlow : ∀ (i : Nat) x, i < p.funcs.length → p.funcs[i]? = some x → OwnFn w' x (vp i) (vb i) (q i) (m0 i) (m1 i) (gp i) (cp i) := fun i x hi hx => by
    have hr := h.fns.rng i hi
    exact (h.fns.each i x hi hx).apart (by omega) fun k k1 k2 => hk k (by omega) fun e => hr.2.2 (by omega)
  refine ⟨ownsRow_take (ownsRow_at h.widen (hk gw (by omega) (by omega))) (by simp [intVs, Pg.more]), ?_, fun i x hx => ?_, fun i x hx => ?_⟩
  · obtain ⟨g7, c7, rfl, hg7, hg7', hc7⟩ := row_one hown (Nat.succ_pos _)
    have hcm : c7 ≤ maxLen := by
      rcases hown.2 with ⟨h1, _⟩ | ⟨_, _, _, hv, _, _, _, hcm, _⟩
      · cases h1
      · cases hv; exact hcm
    have hl : (p.more f).funcs.length = p.funcs.length + 1 := by simp [Pg.more]
    rw [hl]
    refine ⟨_, c7, rfl, hc7, hcm, by simp, fun _ => ⟨g7, 0, rfl, hg7', fun i hi x hx => ?_⟩⟩
    have hlen := rowsOf_len (f := fnRow p.funcs vp vb) p.funcs.length (fnRow_len p.funcs vp vb)
    have c : ∀ (j : Nat) u, (rowsOf (fnRow p.funcs vp vb) p.funcs.length ++ [.string f.name, vp', vb'])[i * 3 + j]? = some u → w'.cell? ⟨g7, 0 + i * 3 + j, none⟩ = some u := fun j u hu => by
      have hc := World.ownsRow.cells hown (g := g7) rfl (i * 3 + j) u hu
      rw [show 0 + i * 3 + j = i * 3 + j by omega]; rw [addr_add] at hc; exact hc
    rcases more_at hx with ⟨hil, hx2⟩ | ⟨rfl, rfl⟩
    · simp only [if_pos hil]
      have k : ∀ (j : Nat) u, j < 3 → ([.string x.name, vp i, vb i] : List Value)[j]? = some u → w'.cell? ⟨g7, 0 + i * 3 + j, none⟩ = some u := fun j u hj hu => c j u (by
        rw [List.getElem?_append_left (by rw [hlen]; omega), rowsOf_get (fnRow_len p.funcs vp vb) i j hil hj, fnRow_at hx2]; exact hu)
      exact ⟨k 0 _ (by decide) rfl, k 1 _ (by decide) rfl, k 2 _ (by decide) rfl⟩
    · simp only [if_neg (Nat.lt_irrefl _)]
      have k : ∀ (j : Nat) u, j < 3 → ([.string x.name, vp', vb'] : List Value)[j]? = some u → w'.cell? ⟨g7, 0 + p.funcs.length * 3 + j, none⟩ = some u := fun j u hj hu => c j u (by
        rw [List.getElem?_append_right (by rw [hlen]; omega), hlen, Nat.add_sub_cancel_left]; exact hu)
      exact ⟨k 0 _ (by decide) rfl, k 1 _ (by decide) rfl, k 2 _ (by decide) rfl⟩
  · rcases more_at hx with ⟨hil, hx2⟩ | ⟨rfl, rfl⟩
    · simp only [if_pos hil]; exact (hlow i x hil hx2).reads.1
    · simp only [if_neg (Nat.lt_irrefl _)]; exact hpm
  · rcases more_at hx with ⟨hil, hx2⟩ | ⟨rfl, rfl⟩
    · simp only [if_pos hil]; exact (hlow i x hil hx2).reads.2
    · simp only [if_neg (Nat.lt_irrefl _)]; exact hbd
/-- The new function's Body: the call in a block, the two statements in another. -/
def moreCs (s : ByteArray) (va : Value) : Array Value := #[.int .i64 10, .string ⟨#[]⟩, .int .i64 0, .int .i64 4, .int .i64 0, .string s, va, .int .i64 0, .int .i64 0, .string ⟨#[]⟩, nilV, nilV, nilV, nilV]
def moreFs (gs : Nat) : Array Value := #[.int .i64 7, .string nameI, .int .i64 0, .int .i64 1, .int .i64 0, .string ⟨#[]⟩, nilV, .int .i64 1, .int .i64 3, .string ⟨#[]⟩, nilV, .slice (some ⟨gs, 0, none⟩) 1 1, nilV, nilV]
def moreAs (size : Int) : Array Value := #[.int .i64 2, .string nameT, .int .i64 size, .int .i64 0, .int .i64 0, .string ⟨#[]⟩, nilV, .int .i64 0, .int .i64 0, .string ⟨#[]⟩, nilV, nilV, nilV, nilV]
def moreBs (gs : Nat) (size : Int) : Array Value := #[.int .i64 7, .string nameI, .int .i64 0, .int .i64 1, .int .i64 0, .string ⟨#[]⟩, nilV, .int .i64 1, .int .i64 3, .string ⟨#[]⟩, nilV, .slice (some ⟨gs, 0, none⟩) 1 1, nilV, nilV,
  .int .i64 2, .string nameT, .int .i64 size, .int .i64 0, .int .i64 0, .string ⟨#[]⟩, nilV, .int .i64 0, .int .i64 0, .string ⟨#[]⟩, nilV, nilV, nilV, nilV]
theorem moreC_in {B : Nat} {w : World} {gs : Nat} {s : ByteArray} {k : Nat} {va : Value} (h : Blk B w gs (moreCs s va) 48) (ha : ExsIn w (List.replicate k argX) va) : StsIn w [moreC s k] (.slice (some ⟨gs, 0, none⟩) 1 1) := by
  have c := h.cell
  refine .mk _ _ (fun _ => va) (fun _ => nilV) (fun _ => nilV) (fun _ => nilV) (fun _ => nilV) (fun _ _ => nilV) ⟨some ⟨gs, 0, none⟩, 1, rfl, Nat.le_refl _, by decide, by simp, fun _ => ⟨gs, 0, rfl, h.lt, fun i hi x hx => ?_⟩⟩ (fun i x hx => ?_) (fun i x hx => ?_) (fun i x hx => ?_) (fun i x hx => ?_) (fun i x hx => ?_) (fun i x k y hx hy => ?_)
  all_goals obtain ⟨rfl, rfl⟩ := pm1 i hx
  · exact ⟨c 0, c 1, c 2, c 3, c 4, c 5, c 6, c 7, c 8, c 9, c 10, c 11, c 12, c 13⟩
  · exact ha
  · exact exsIn_nil w
  · exact stsIn_nil w
  · exact stsIn_nil w
  · exact rowOf_nil _ _ _
  · simp [moreC, St.cases] at hy
theorem pm2 (i : Nat) {α : Type} {a b x : α} (h : [a, b][i]? = some x) : (i = 0 ∧ x = a) ∨ (i = 1 ∧ x = b) := by
  match i with
  | 0 => simp at h; exact .inl ⟨rfl, h.symm⟩
  | 1 => simp at h; exact .inr ⟨rfl, h.symm⟩
  | i + 2 => simp at h
theorem moreB_in {B : Nat} {w : World} {g gs : Nat} {s : ByteArray} {k : Nat} {size : Int} {va : Value} (h1 : Blk B w g (moreBs gs size) 48) (h : Blk B w gs (moreCs s va) 48) (ha : ExsIn w (List.replicate k argX) va) : StsIn w (moreB s k size) (.slice (some ⟨g, 0, none⟩) 2 2) := by
  have c := h1.cell
  refine .mk _ _ (fun _ => nilV) (fun _ => nilV) (fun i => if i = 0 then .slice (some ⟨gs, 0, none⟩) 1 1 else nilV) (fun _ => nilV) (fun _ => nilV) (fun _ _ => nilV) ⟨some ⟨g, 0, none⟩, 2, rfl, Nat.le_refl _, by decide, by simp, fun _ => ⟨g, 0, rfl, h1.lt, fun i hi x hx => ?_⟩⟩ (fun i x hx => ?_) (fun i x hx => ?_) (fun i x hx => ?_) (fun i x hx => ?_) (fun i x hx => ?_) (fun i x k y hx hy => ?_)
  all_goals rcases pm2 i hx with ⟨rfl, rfl⟩ | ⟨rfl, rfl⟩
  · exact ⟨c 0, c 1, c 2, c 3, c 4, c 5, c 6, c 7, c 8, c 9, c 10, c 11, c 12, c 13⟩
  · exact ⟨c 14, c 15, c 16, c 17, c 18, c 19, c 20, c 21, c 22, c 23, c 24, c 25, c 26, c 27⟩
  · exact exsIn_nil w
  · exact exsIn_nil w
  · exact exsIn_nil w
  · exact exsIn_nil w
  · exact moreC_in h ha
  · exact stsIn_nil w
  · exact stsIn_nil w
  · exact stsIn_nil w
  · exact rowOf_nil _ _ _
  · exact rowOf_nil _ _ _
  · simp [moreF, St.cases] at hy
  · simp [moreA, St.cases] at hy
theorem args_rngs : ∀ k, Ex.rngs (List.replicate k argX)
  | 0 => trivial
  | k + 1 => ⟨(Ex.rng_eq _).2 ⟨⟨by decide, by decide⟩, trivial⟩, args_rngs k⟩
theorem more_rng {p : Pg} {s : ByteArray} {k : Nat} {size : Int} (h : p.rng) (hs : in64 size) : (p.more (moreFn s k size)).rng := fun f hf => by
  have z : in64 0 := ⟨by decide, by decide⟩
  have o : in64 3 := ⟨by decide, by decide⟩
  have hz : zeroX.rng := (Ex.rng_eq _).2 ⟨z, trivial⟩
  have hnum : ∀ n, in64 n → (numX n).rng := fun n hn => (Ex.rng_eq _).2 ⟨hn, trivial⟩
  have ha : Ex.rngs (List.replicate k argX) := args_rngs k
  rcases List.mem_append.1 hf with h1 | h1
  · exact h f h1
  · obtain rfl : f = moreFn s k size := by simpa using h1
    have hx : (moreX s k).rng := (Ex.rng_eq _).2 ⟨z, ha⟩
    have hc : (moreC s k).rng := (St.rng_eq _).2 ⟨z, hx, hz, trivial, trivial, trivial⟩
    have hF : (moreF s k).rng := (St.rng_eq _).2 ⟨z, hnum 0 z, hnum 3 o, ⟨hc, trivial⟩, trivial, trivial⟩
    have hA : (moreA size).rng := (St.rng_eq _).2 ⟨hs, hz, hz, trivial, trivial, trivial⟩
    exact ⟨⟨hF, hA, trivial⟩, fun x hx => by cases hx⟩
end Go.Proofs.Ytgcplcffejbniaa
