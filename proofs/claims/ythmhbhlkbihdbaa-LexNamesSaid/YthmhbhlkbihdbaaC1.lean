/- The walk of LexNames. -/
import Derived.Test.YthmhbhlkbihdbaaA3
import Derived.Test.YthmhbhlkbihdbaaB2
namespace Go.Proofs.Ythmhbhlkbihdbaa
open Go.RowKit LexP

set_option maxRecDepth 100000 in
set_option maxHeartbeats 1000000 in
theorem LexNames_any (s : ByteArray) (w : World) (hs : s.size ≤ maxLen) : Calls Try.prog 8 #[.string s] w fun e w' => e = .returned (.bool true) ∧ Below w.heap.size w w' := by
  go_enter Try.func8, Try.ntmps8
  go_wp2_with (first | go_quiet (fail) | (go_at_call 16; refine (word_any _ _).mono ?_; rintro e w2 ⟨rfl, rfl⟩) | (go_at_call 17; refine (Word_any _ _).mono ?_; rintro e w2 ⟨rfl, rfl⟩) | (go_at_call 18; refine (name_any _ _ hs).mono ?_; rintro e w2 ⟨rfl, rfl⟩) | (go_at_call 19; refine (Name_any _ _ hs).mono ?_; rintro e w2 ⟨rfl, rfl⟩) | (go_at_call 13; refine (awake_any _).mono ?_; rintro e w2 ⟨rfl, hb⟩))
  go_ret
  exact ⟨rfl, hb⟩
end Go.Proofs.Ythmhbhlkbihdbaa
