/- The statements' sample: its code, and what it comes to. -/
import Derived.Test.YtggkeodoenhmoaaBlocks
namespace Go.Proofs.Ytggkeodoenhmoaa
open Go.RowKit

def sampleCode : List Ins := [⟨17, 0, 1, 0, 4⟩, ⟨15, 2, 0, 0, 3⟩, ⟨3, 3, 3, 0, 0⟩, ⟨18, 0, 0, 0, 0⟩, ⟨0, 3, 0, 0, 0⟩, ⟨14, 0, 0, 0, 5⟩]

theorem sample_reach : reachL sampleCode (-1) = [true, true, true, true, true, false] := by
  have h0 : Rch sampleCode (-1) 0 := Rch.start (by decide)
  have h1 : Rch sampleCode (-1) 1 := Rch.step h0 (by decide +kernel) (by decide)
  have h4 : Rch sampleCode (-1) 4 := Rch.step h0 (by decide +kernel) (by decide)
  have h2 : Rch sampleCode (-1) 2 := Rch.step h1 (by decide +kernel) (by decide)
  have h3 : Rch sampleCode (-1) 3 := Rch.step h1 (by decide +kernel) (by decide)
  have hc : ∀ u : Nat, u < 6 → ∀ v : Nat, v < 6 → [true, true, true, true, true, false].getD u false = true → (v : Int) ∈ nextL sampleCode (u : Int) → [true, true, true, true, true, false].getD v false = true := by decide +kernel
  symm
  refine reachL_of (by decide) (by decide) ?_ (fun _ => by decide) (fun u v hu hv h1 h2 _ => hc u hu v hv h1 h2)
  intro v hv h
  match v, hv with
  | 0, _ => exact h0
  | 1, _ => exact h1
  | 2, _ => exact h2
  | 3, _ => exact h3
  | 4, _ => exact h4
  | 5, _ => simp at h

theorem sample_edges : edgesL sampleCode = [(0, 1), (0, 4), (1, 2), (1, 3), (2, 3), (3, 0)] := by
  unfold edgesL
  rw [sample_reach]
  decide +kernel

theorem sample_blocks : blocksL sampleCode = [0, 1, 2, 3, 4] := by
  unfold blocksL
  rw [sample_edges, sample_reach]
  decide +kernel

theorem sample_next : nextL sampleCode 1 = [2, 3] := by decide +kernel

set_option maxHeartbeats 1000000 in
theorem sample_any (w : World) : Calls Try.prog 36 #[] w fun e w' => ∃ g, e = .returned (fnV ByteArray.empty (.slice none 0 0) 0 0 (.slice (some ⟨g, 0, none⟩) 6 6)) ∧ CodeIn w' (.slice (some ⟨g, 0, none⟩) 6 6) sampleCode ∧ Below w.heap.size w w' := by
  go_enter Try.func36, Try.ntmps36
  go_wp2_with fail
  refine bodyPost_ret (v := fnV ByteArray.empty (.slice none 0 0) 0 0 (.slice (some ⟨w.heap.size + 1, 0, none⟩) 6 6)) (by simp [results, Try.results36, go_sem]; rfl) rfl ⟨_, rfl, ?_, ?_⟩
  · have := sliceIn_new (w.alloc (.cells #[.string ByteArray.empty, .slice none 0 0, .int .i64 0, .int .i64 0, .slice (some ⟨w.heap.size + 1, 0, none⟩) 6 6] 25)) (sampleCode.flatMap Ins.cells) 6 5 53 (by decide +kernel) (by decide)
    rw [World.size_alloc] at this
    exact this
  · exact ((Below.refl _ _).alloc (Nat.le_refl _) _).alloc (by (try simp only [World.size_alloc]); (try simp only [size_set]); omega) _
end Go.Proofs.Ytggkeodoenhmoaa
