/- The walk of the reference's Same, of two rows of the same tokens. -/
import Derived.Test.YthmhbhlkbihdbaaC4
namespace Go.Proofs.Ythmhbhlkbihdbaa
open Go.RowKit LexP

set_option maxHeartbeats 400000 in
theorem Same_nil (w : World) : Calls Try.prog 11 #[.slice none 0 0, .slice none 0 0] w fun e w' => e = .returned (.bool true) ∧ Below w.heap.size w w' := by
  go_enter Try.func11, Try.ntmps11
  go_wp2_with fail
  refine wp_loop_rounds 1 ?_
  rw [rounds_succ]
  go_wp2_with fail
  go_ret
  exact ⟨rfl, Below.refl _ _⟩

set_option maxRecDepth 100000 in
set_option maxHeartbeats 1000000 in
theorem Same_row (l : List Tok) (g cap g' cap' : Nat) (w : World) (hl : l.length ≤ 100000) (ha : TokRow w (.slice (some ⟨g, 0, none⟩) l.length cap) l g cap) (hb : TokRow w (.slice (some ⟨g', 0, none⟩) l.length cap') l g' cap') :
    Calls Try.prog 11 #[.slice (some ⟨g, 0, none⟩) l.length cap, .slice (some ⟨g', 0, none⟩) l.length cap'] w fun e w' => e = .returned (.bool true) ∧ Below w.heap.size w w' := by
  have HA := Lib.hid ha
  have HB := Lib.hid hb
  clear ha hb
  go_enter Try.func11, Try.ntmps11
  go_wp2_with fail
  go_loopw [5] (fun i wr => ∃ k n : Nat, k ≤ l.length ∧ i = .int .i64 k ∧ wr = w.drewN n) (fun i _ => l.length - (intOf i).toNat)
  case atStart => exact ⟨0, 0, by omega, rfl, rfl⟩
  case round =>
    obtain ⟨k, n, hk, rfl, rfl⟩ := hrel
    by_cases hlt : k < l.length
    · obtain ⟨a0, a1, a2, a3⟩ := HA.out.tok k hlt
      obtain ⟨b0, b1, b2, b3⟩ := HB.out.tok k hlt
      generalize l[k] = t at *
      go_wp2_with (go_quiet (fail))
      exact ⟨⟨k + 1, n + nq, by omega, by go_num, rfl⟩, by simp [intOf]; omega⟩
    · go_wp2_with fail
      go_ret
      exact ⟨rfl, below_drewN (Below.refl _ _) _⟩
end Go.Proofs.Ythmhbhlkbihdbaa
