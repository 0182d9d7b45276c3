/- gen: the program of 'awake', in memory; what it comes to. -/
import Derived.Test.YtgobcldecokppaaGnMod
namespace Go.Proofs.Ytgobcldecokppaa
open Go.RowKit Go.Maps

def gBlk (w : World) (g : Nat) (cs : Array Value) : Prop := g < w.heap.size ∧ ∀ j u, cs[j]? = some u → w.cell? ⟨g, j, none⟩ = some u
theorem gBlk.later {w w' : World} {g B : Nat} {cs : Array Value} (h : gBlk w g cs) (hb : Below B w w') (hB : g < B) : gBlk w' g cs := ⟨Nat.lt_of_lt_of_le h.1 hb.size, fun j u hu => (hb.cell (p := ⟨g, j, none⟩) hB).trans (h.2 j u hu)⟩
theorem gBlk.made {w : World} {cs : Array Value} {t : TypeId} {g : Nat} (hg : g = w.heap.size) : gBlk (w.alloc (.cells cs t)) g cs := ⟨by rw [hg]; simp, fun j u hu => by rw [World.cell?_alloc_at _ _ _ _ hg]; exact hu⟩
def gA : ByteArray := ⟨#[97]⟩
def gF : ByteArray := ⟨#[102]⟩
def gE0 : Ex := .mk 0 0 ⟨#[]⟩ []
def gEx : Ex := .mk 18 0 ⟨#[]⟩ [.mk 2 0 gA [], .mk 1 2 ⟨#[]⟩ []]
def gSt : St := .mk 9 ⟨#[]⟩ 0 gEx gE0 [] [] []
def pAw : Pg := ⟨[], [⟨gF, [⟨gA, 0, 3⟩], [gSt]⟩]⟩
def gcE : Array Value := #[.int .i64 2, .int .i64 0, .string gA, .slice none 0 0, .int .i64 1, .int .i64 2, .string ⟨#[]⟩, .slice none 0 0]
def gcS (ge : Nat) : Array Value := #[.int .i64 9, .string ⟨#[]⟩, .int .i64 0, .int .i64 18, .int .i64 0, .string ⟨#[]⟩, .slice (some ⟨ge, 0, none⟩) 2 2, .int .i64 0, .int .i64 0, .string ⟨#[]⟩, .slice none 0 0, .slice none 0 0, .slice none 0 0, .slice none 0 0]
def gcP : Array Value := #[.string gA, .int .i64 0, .int .i64 3]
def gcF (gp gs : Nat) : Array Value := #[.string gF, .slice (some ⟨gp, 0, none⟩) 1 1, .slice (some ⟨gs, 0, none⟩) 1 1]
theorem g_one {α : Type} {a x : α} (i : Nat) (h : [a][i]? = some x) : i = 0 ∧ x = a := by
  match i with
  | 0 => simp at h; exact ⟨rfl, h.symm⟩
  | i + 1 => simp at h
theorem g_two {α : Type} {a b x : α} (i : Nat) (h : [a, b][i]? = some x) : i = 0 ∧ x = a ∨ i = 1 ∧ x = b := by
  match i with
  | 0 => simp at h; exact .inl ⟨rfl, h.symm⟩
  | 1 => simp at h; exact .inr ⟨rfl, h.symm⟩
  | i + 2 => simp at h
theorem grow_nil (w : World) (size : Nat) (P : Nat → Nat → Nat → Prop) : RowOf w (.slice none 0 0) 0 size P := ⟨none, 0, rfl, Nat.le_refl _, Nat.zero_le _, fun _ => rfl, fun h => absurd h (Nat.lt_irrefl _)⟩
theorem gexs_nil (w : World) : ExsIn w [] (.slice none 0 0) := .mk _ _ (fun _ => (.slice none 0 0)) (grow_nil _ _ _) fun i x h => by simp at h
theorem gsts_nil (w : World) : StsIn w [] (.slice none 0 0) := .mk _ _ (fun _ => (.slice none 0 0)) (fun _ => (.slice none 0 0)) (fun _ => (.slice none 0 0)) (fun _ => (.slice none 0 0)) (fun _ => (.slice none 0 0)) (fun _ _ => (.slice none 0 0)) (grow_nil _ _ _) (fun i x h => by simp at h) (fun i x h => by simp at h) (fun i x h => by simp at h) (fun i x h => by simp at h) (fun i x h => by simp at h) (fun i x k y h => by simp at h)
theorem gaw_in {w : World} {ge gs gp gf : Nat} (he : gBlk w ge gcE) (hs : gBlk w gs (gcS ge)) (hp : gBlk w gp gcP) (hf : gBlk w gf (gcF gp gs)) :
    PgIn w pAw (.slice none 0 0) (.slice (some ⟨gf, 0, none⟩) 1 1) (fun _ => .slice (some ⟨gp, 0, none⟩) 1 1) (fun _ => .slice (some ⟨gs, 0, none⟩) 1 1) := by
  have cf := hf.2
  have cp := hp.2
  refine ⟨⟨rfl, none, 0, rfl, Nat.le_refl _, Nat.zero_le _, fun _ => rfl, fun h => absurd h (Nat.lt_irrefl _)⟩, ⟨?_, fun i x hx => ?_, fun i x hx => ?_⟩⟩
  · refine ⟨some ⟨gf, 0, none⟩, 1, rfl, Nat.le_refl _, by decide, by simp, fun _ => ⟨gf, 0, rfl, hf.1, fun i hi x hx => ?_⟩⟩
    obtain ⟨rfl, rfl⟩ := g_one i hx
    exact ⟨cf 0 _ rfl, cf 1 _ rfl, cf 2 _ rfl⟩
  · obtain ⟨rfl, rfl⟩ := g_one i hx
    refine ⟨some ⟨gp, 0, none⟩, 1, rfl, Nat.le_refl _, by decide, by simp, fun _ => ⟨gp, 0, rfl, hp.1, fun i hi x hx => ?_⟩⟩
    obtain ⟨rfl, rfl⟩ := g_one i hx
    exact ⟨cp 0 _ rfl, cp 1 _ rfl, cp 2 _ rfl⟩
  · obtain ⟨rfl, rfl⟩ := g_one i hx
    have h := hs.2
    refine .mk _ _ (fun _ => .slice (some ⟨ge, 0, none⟩) 2 2) (fun _ => (.slice none 0 0)) (fun _ => (.slice none 0 0)) (fun _ => (.slice none 0 0)) (fun _ => (.slice none 0 0)) (fun _ _ => (.slice none 0 0)) ?_ (fun i y h => ?_) (fun i y h => ?_) (fun i y h => ?_) (fun i y h => ?_) (fun i y h => ?_) (fun i y k z h hz => ?_)
    · refine ⟨some ⟨gs, 0, none⟩, 1, rfl, Nat.le_refl _, by decide, by simp, fun _ => ⟨gs, 0, rfl, hs.1, fun i hi y hy => ?_⟩⟩
      obtain ⟨rfl, rfl⟩ := g_one i hy
      exact ⟨h 0 _ rfl, h 1 _ rfl, h 2 _ rfl, h 3 _ rfl, h 4 _ rfl, h 5 _ rfl, h 6 _ rfl, h 7 _ rfl, h 8 _ rfl, h 9 _ rfl, h 10 _ rfl, h 11 _ rfl, h 12 _ rfl, h 13 _ rfl⟩
    all_goals obtain ⟨rfl, rfl⟩ := g_one i h
    · have h := he.2
      refine .mk _ _ (fun _ => (.slice none 0 0)) ?_ (fun i y h => ?_)
      · refine ⟨some ⟨ge, 0, none⟩, 2, rfl, Nat.le_refl _, by decide, by simp, fun _ => ⟨ge, 0, rfl, he.1, fun i hi y hy => ?_⟩⟩
        rcases g_two i hy with ⟨rfl, rfl⟩ | ⟨rfl, rfl⟩
        · exact ⟨h 0 _ rfl, h 1 _ rfl, h 2 _ rfl, h 3 _ rfl⟩
        · exact ⟨h 4 _ rfl, h 5 _ rfl, h 6 _ rfl, h 7 _ rfl⟩
      · rcases g_two i h with ⟨rfl, rfl⟩ | ⟨rfl, rfl⟩ <;> exact gexs_nil w
    · exact gexs_nil w
    · exact gsts_nil w
    · exact gsts_nil w
    · exact grow_nil _ _ _
    · cases hz
def gawG : GFun := ⟨gF, [(0, 3)], 2, 0, [⟨2, 1, 0, 0, 0⟩, ⟨16, 1, 0, 0, 5⟩, ⟨1, 1, 0, 0, 2⟩, ⟨10, 1, 1, 0, 0⟩, ⟨10, 1, 1, 0, 0⟩, ⟨0, 1, 0, 0, 0⟩, ⟨1, 1, 0, 0, 0⟩, ⟨0, 1, 0, 0, 0⟩]⟩
set_option maxRecDepth 100000 in
theorem gaw_fun : gnFun (fun _ => 0) ⟨gF, [⟨gA, 0, 3⟩], [gSt]⟩ = gawG := by kernel_rfl
theorem gaw_rfault : pAw.rfault = (0, 0, 0) := by decide +kernel
theorem gaw_gmod : pAw.gmod = ([], [gawG], (0, 0, 0)) := by
  unfold Pg.gmod
  rw [gaw_rfault, if_neg (by decide)]
  have h : gnAll pAw.funcs 0 (fun _ => 0) = ([gawG], (0, 0, 0)) := by
    simp only [pAw, gnAll, gaw_fun]
    rw [if_neg (by decide)]
  rw [h]
  rfl
end Go.Proofs.Ytgobcldecokppaa
