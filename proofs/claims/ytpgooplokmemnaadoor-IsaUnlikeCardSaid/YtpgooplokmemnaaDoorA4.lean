/- The walks of isa.Uses, and of the reference's Name and Uses. -/
import Derived.Test.YtpgooplokmemnaaDoorA3
namespace Go.Proofs.YtpgooplokmemnaaDoor
open Go Go.RowKit IsaP
set_option maxHeartbeats 4000000
set_option maxRecDepth 100000

theorem uses_at (op r : Int) (s : ByteArray) (m k : Bool) (hof : ∀ w, Calls Tryd.prog 20 #[.int .i64 op] w fun e w' => e = .returned (.tuple #[.agg #[.string s, .int .i64 r, .bool m], .bool k]) ∧ Below w.heap.size w w') (w : World) :
    Calls Tryd.prog 16 #[.int .i64 op] w fun e w' => e = .returned (.tuple #[.int .i64 r, .bool m, .bool k]) ∧ Below w.heap.size w w' := by
  go_enter Tryd.func16, Tryd.ntmps16
  go_wp2_with (first | go_quiet (fail) | (go_at_call 20; refine (hof _).mono ?_; rintro e w2 ⟨rfl, hb⟩))
  go_ret3
  exact ⟨rfl, (hb.alloc hb.size _).trans ⟨rfl, rfl, rfl, Nat.le_refl _, fun _ _ => rfl⟩⟩
theorem uses_any (op : Int) (w : World) :
    Calls Tryd.prog 16 #[.int .i64 op] w fun e w' => e = .returned (.tuple #[.int .i64 (rg op), .bool (im op), .bool (ok op)]) ∧ Below w.heap.size w w' :=
  uses_at op (rg op) _ (im op) (ok op) (of_any op) w

theorem sum_any (op : Int) (h : ¬ (0 ≤ op ∧ op < 16)) (w : World) : Calls Tryd.prog 33 #[.int .i64 op] w fun e w' => e = .returned (.string ⟨(nm op).toArray⟩) ∧ w = w' := by
  go_enter Tryd.func33, Tryd.ntmps33
  go_wp2
  all_goals go_ret
  all_goals refine ⟨?_, rfl⟩
  all_goals simp only [beq_iff_eq, beq_eq_false_iff_ne] at *
  all_goals first | (subst_vars; rfl) | (rw [(not_ok op (by simp [ok]; omega)).1]; rfl)
theorem name_any (op : Int) (w : World) : Calls Tryd.prog 26 #[.int .i64 op] w fun e w' => e = .returned (.string ⟨(nm op).toArray⟩) ∧ w = w' := by
  go_enter Tryd.func26, Tryd.ntmps26
  go_wp2_with (go_at_call 33; refine (sum_any op (by simp only [beq_eq_false_iff_ne] at *; omega) _).mono ?_; rintro e w2 ⟨rfl, rfl⟩)
  all_goals go_ret
  all_goals refine ⟨?_, rfl⟩
  all_goals first | rfl | (simp only [beq_iff_eq, beq_eq_false_iff_ne] at *; subst_vars; rfl)
theorem nm_empty (op : Int) : (nm op).isEmpty = !ok op := by
  cases h : ok op
  · rw [(not_ok op h).1]; rfl
  · obtain rfl | rfl | rfl | rfl | rfl | rfl | rfl | rfl | rfl | rfl | rfl | rfl | rfl | rfl | rfl | rfl | rfl | rfl | rfl | rfl | rfl | rfl | rfl | rfl | rfl | rfl | rfl | rfl | rfl | rfl | rfl | rfl | rfl | rfl | rfl := ok_cases op h <;> rfl
theorem uses2_any (op : Int) (w : World) : Calls Tryd.prog 17 #[.int .i64 op] w fun e w' => e = .returned (.tuple #[.int .i64 (rg op), .bool (im op), .bool (ok op)]) ∧ w = w' := by
  have hn := nm_empty op
  cases hk : ok op
  · rw [hk] at hn
    obtain ⟨-, h2, h3⟩ := not_ok op hk
    rw [h2, h3]
    clear h2 h3 hk
    go_enter Tryd.func17, Tryd.ntmps17
    go_wp2_with (go_at_call 26; refine (name_any op _).mono ?_; rintro e w2 ⟨rfl, rfl⟩)
    go_ret3
    exact ⟨rfl, rfl⟩
  · rw [hk] at hn
    have hkk := Lib.hid hk
    clear hk
    go_enter Tryd.func17, Tryd.ntmps17
    go_wp2_with (go_at_call 26; refine (name_any op _).mono ?_; rintro e w2 ⟨rfl, rfl⟩)
    all_goals go_ret3
    all_goals refine ⟨?_, rfl⟩
    all_goals clear hn
    all_goals simp only [beq_iff_eq, beq_eq_false_iff_ne] at *
    all_goals first | (subst_vars; rfl) | (have hk := hkk.out; clear hkk; obtain rfl | rfl | rfl | rfl | rfl | rfl | rfl | rfl | rfl | rfl | rfl | rfl | rfl | rfl | rfl | rfl | rfl | rfl | rfl | rfl | rfl | rfl | rfl | rfl | rfl | rfl | rfl | rfl | rfl | rfl | rfl | rfl | rfl | rfl | rfl := ok_cases op hk <;> first | rfl | (exfalso; omega))
end Go.Proofs.YtpgooplokmemnaaDoor
