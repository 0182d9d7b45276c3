/- R2's look at a statement's own form. -/
import Derived.Test.YtgobcldecokppaaDoorTrOwn
/- tree.own: what is wrong with a statement itself. -/
namespace Go.Proofs.YtgobcldecokppaaDoor
open Go.RowKit

theorem St.own_eq (x : St) : x.ownF (knownS x.kind) (cntName x.kind) (cntN x.kind) (cntA x.kind) (cntB x.kind) (cntBody x.kind) (cntElse x.kind) (cntCases x.kind) = x.own := by
  have e1 : decide (0 < x.body.length) = !decide (x.body.length = 0) := by rw [← decide_not]; exact decide_eq_decide.2 (by omega)
  have e2 : decide (0 < x.els.length) = !decide (x.els.length = 0) := by rw [← decide_not]; exact decide_eq_decide.2 (by omega)
  have e3 : decide (0 < x.cases.length) = !decide (x.cases.length = 0) := by rw [← decide_not]; exact decide_eq_decide.2 (by omega)
  have e4 : decide (x.name.toList ≠ []) = !decide (x.name.toList = []) := by rw [← decide_not]
  have e5 : decide (x.n ≠ 0) = !decide (x.n = 0) := by rw [← decide_not]
  have h : (!knownS x.kind || (!cntName x.kind && decide (x.name.toList ≠ [])) || (!cntN x.kind && decide (x.n ≠ 0)) || (!cntA x.kind && !x.a.zero) || (!cntB x.kind && !x.b.zero) || (!cntBody x.kind && decide (0 < x.body.length)) || (!cntElse x.kind && decide (0 < x.els.length)) || (!cntCases x.kind && decide (0 < x.cases.length))) = !x.formed := by
    rw [e1, e2, e3, e4, e5]
    unfold St.formed
    simp only [Bool.not_and, Bool.not_or]
  unfold St.own St.ownF
  rw [h]
  cases x.formed <;> rfl
theorem own_any (x : St) (aa ab ad ae ac : Option Addr) (na nb nd ne nc ca cb cd ce cc : Nat) (hna : na = x.a.args.length) (hnb : nb = x.b.args.length) (hnd : nd = x.body.length) (hne : ne = x.els.length) (hnc : nc = x.cases.length)
    (vk : Nat → Value) (W : World)
    (hcs : RowOf W (.slice ac nc cc) x.cases.length 2 (fun b o k => ∀ y, x.cases[k]? = some y → CsAt W b o y (vk k))) (hvk : ∀ (i : Nat) y, x.cases[i]? = some y → ∃ a m cap, vk i = .slice a m cap) :
    Calls Tryd.prog 55 #[stVal x (.slice aa na ca) (.slice ab nb cb) (.slice ad nd cd) (.slice ae ne ce) (.slice ac nc cc), cntV x.kind, .bool (knownS x.kind)] W (Gives (.int .i64 x.own) W) := by
  have := own_flags x aa ab ad ae ac na nb nd ne nc ca cb cd ce cc hna hnb hnd hne hnc (knownS x.kind) (cntName x.kind) (cntN x.kind) (cntA x.kind) (cntB x.kind) (cntBody x.kind) (cntElse x.kind) (cntCases x.kind) vk W hcs hvk
  rw [St.own_eq] at this
  exact this
end Go.Proofs.YtgobcldecokppaaDoor

namespace Go.Proofs.YtgobcldecokppaaDoor
open Go.RowKit

def FormAt (W : World) (b c : Nat) (x : St) (va vb vd ve vc : Value) (f0 f1 f2 f3 f4 f5 f6 : Bool) (w : World) : Prop :=
  Below W.heap.size W w ∧ (W.heap.size = b ∧ b < c ∧ c < w.heap.size) ∧ StAt w b 0 x va vb vd ve vc ∧ FlAt w c f0 f1 f2 f3 f4 f5 f6
theorem formStep {W : World} {b c : Nat} {x : St} {va vb vd ve vc : Value} {f0 f1 f2 f3 f4 f5 f6 : Bool} {w w' : World} (h : Hid (FormAt W b c x va vb vd ve vc f0 f1 f2 f3 f4 f5 f6 w)) (hb : Below w.heap.size w w') : Hid (FormAt W b c x va vb vd ve vc f0 f1 f2 f3 f4 f5 f6 w') := by
  obtain ⟨h1, h2, h3, h4⟩ := h.out
  have q := hb.size
  exact Lib.hid ⟨h1.trans (hb.mono h1.size), ⟨h2.1, by omega⟩, h3.later hb (by omega), h4.later hb (by omega)⟩
theorem len_dec (n : Nat) : ((n : Int) == 0) = decide (n = 0) := by
  show decide ((n : Int) = 0) = _
  exact decide_eq_decide.2 (by omega)
theorem eq_dec (n m : Int) : (n == m) = decide (n = m) := rfl
end Go.Proofs.YtgobcldecokppaaDoor
