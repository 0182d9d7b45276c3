/- names: what is known of a name. -/
import Derived.Test.YtneibcpgengdnaaNmSpec
namespace Go.Proofs.Ytneibcpgengdnaa
open Go.RowKit Go.Maps

set_option maxRecDepth 100000 in
theorem of_any (c bk : Nat) (S : List ByteArray) (F : ByteArray → Int) (s : ByteArray) (W : World) (h0 : W.cell? ⟨c, 0, none⟩ = some (.map (some bk))) (hm : SMap W bk S F) (hs : s.size ≤ maxLen) :
    Calls Try.prog 106 #[ptrV c, .string s] W (fun e W' => e = .returned (.int .i64 (F s)) ∧ W = W') := by
  have Hm := Lib.hid hm
  obtain ⟨z, hz⟩ : ∃ z, z = F s := ⟨_, rfl⟩
  have Hz := Lib.hid hz
  rw [← hz]
  clear hm hz
  go_enter Try.func106, Try.ntmps106
  go_wp2_with (at_lookup; refine sm_look (t := 87) Try.underlying87 (by kernel_rfl) rfl _ _ rfl bk S F rfl Hm.out s rfl hs z Hz.out.symm ?_)
  go_ret
  exact ⟨rfl, rfl⟩
theorem need_any (c bk : Nat) (S : List ByteArray) (K : Known) (s : ByteArray) (arr : Bool) (W : World) (h0 : W.cell? ⟨c, 0, none⟩ = some (.map (some bk))) (hm : SMap W bk S (kindOf K)) (hs : s.size ≤ maxLen) :
    Calls Try.prog 105 #[ptrV c, .string s, .bool arr] W (fun e W' => e = .returned (.int .i64 (needE K s arr)) ∧ W = W') := by
  have Hm := Lib.hid (And.intro h0 hm)
  have q := block_lt_of_cell h0
  clear hm h0
  obtain ⟨z, hz⟩ : ∃ z, z = kindOf K s := ⟨_, rfl⟩
  have Hn : Hid (needE K s arr = if z = 0 then 8 else if decide (z = 3) ≠ arr then 30 else 0) := by show _ = _; unfold needE; rw [← hz]
  have Hz := Lib.hid hz
  clear hz
  go_enter Try.func105, Try.ntmps105
  go_wp2_with fail
  refine (of_any c bk S (kindOf K) s W Hm.out.1 Hm.out.2 hs).mono ?_
  rintro e w2 ⟨rfl, hw⟩
  rw [← hw, ← Hz.out]
  clear hw
  by_cases h0 : z = 0
  · subst h0
    go_wp2_with fail
    go_ret
    exact ⟨by rw [Hn.out]; rfl, rfl⟩
  · have h1 : (z == 0) = false := by simp [h0]
    by_cases h3 : z = 3
    · subst h3
      cases arr
      all_goals
        go_wp2_with fail
        go_ret
        exact ⟨by rw [Hn.out]; rfl, rfl⟩
    · have h2 : (z == 3) = false := by simp [h3]
      have Hd : Hid (decide (z = 3) = false) := decide_eq_false h3
      have H0 := Lib.hid h0
      cases arr
      all_goals
        clear h0 h3
        go_wp2_with fail
        go_ret
        exact ⟨by rw [Hn.out, if_neg H0.out, Hd.out]; rfl, rfl⟩
end Go.Proofs.Ytneibcpgengdnaa
