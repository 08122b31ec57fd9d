/- isa.of, may and their kin at any number. -/
import Derived.Test.YtpgooplokmemnaaDoorA0
import Derived.Test.YtpgooplokmemnaaDoorA1
import Derived.Deep.QuietTactic
import Derived.BigQuiet
namespace Go.Proofs.YtpgooplokmemnaaDoor
open Go Go.RowKit IsaP
set_option maxHeartbeats 2000000
set_option maxRecDepth 100000
theorem of_any (op : Int) (w : World) : Calls Tryd.prog 20 #[.int .i64 op] w fun e w' => e = .returned (.tuple #[.agg #[.string ⟨(nm op).toArray⟩, .int .i64 (rg op), .bool (im op)], .bool (ok op)]) ∧ Below w.heap.size w w' := by
  cases h : ok op
  · obtain ⟨h1, h2, h3⟩ := not_ok op h
    rw [h1, h2, h3]
    simp only [ok, Bool.or_eq_false_iff] at h
    exact of_none op h.1.1 h.1.2 h.2 w
  · obtain rfl | rfl | rfl | rfl | rfl | rfl | rfl | rfl | rfl | rfl | rfl | rfl | rfl | rfl | rfl | rfl | rfl | rfl | rfl | rfl | rfl | rfl | rfl | rfl | rfl | rfl | rfl | rfl | rfl | rfl | rfl | rfl | rfl | rfl | rfl := ok_cases op h
    · exact of_low 0 (by decide) (by decide) _ _ _ rfl rfl rfl w
    · exact of_low 1 (by decide) (by decide) _ _ _ rfl rfl rfl w
    · exact of_low 2 (by decide) (by decide) _ _ _ rfl rfl rfl w
    · exact of_low 3 (by decide) (by decide) _ _ _ rfl rfl rfl w
    · exact of_low 4 (by decide) (by decide) _ _ _ rfl rfl rfl w
    · exact of_low 5 (by decide) (by decide) _ _ _ rfl rfl rfl w
    · exact of_low 6 (by decide) (by decide) _ _ _ rfl rfl rfl w
    · exact of_low 7 (by decide) (by decide) _ _ _ rfl rfl rfl w
    · exact of_low 8 (by decide) (by decide) _ _ _ rfl rfl rfl w
    · exact of_low 9 (by decide) (by decide) _ _ _ rfl rfl rfl w
    · exact of_low 10 (by decide) (by decide) _ _ _ rfl rfl rfl w
    · exact of_low 11 (by decide) (by decide) _ _ _ rfl rfl rfl w
    · exact of_low 12 (by decide) (by decide) _ _ _ rfl rfl rfl w
    · exact of_low 13 (by decide) (by decide) _ _ _ rfl rfl rfl w
    · exact of_low 14 (by decide) (by decide) _ _ _ rfl rfl rfl w
    · exact of_low 15 (by decide) (by decide) _ _ _ rfl rfl rfl w
    · exact of_two 17 (by decide) (by decide) _ rfl w
    · exact of_two 18 (by decide) (by decide) _ rfl w
    · exact of_two 19 (by decide) (by decide) _ rfl w
    · exact of_two 20 (by decide) (by decide) _ rfl w
    · exact of_two 21 (by decide) (by decide) _ rfl w
    · exact of_two 22 (by decide) (by decide) _ rfl w
    · exact of_two 23 (by decide) (by decide) _ rfl w
    · exact of_two 24 (by decide) (by decide) _ rfl w
    · exact of_two 25 (by decide) (by decide) _ rfl w
    · exact of_two 26 (by decide) (by decide) _ rfl w
    · exact of_two 27 (by decide) (by decide) _ rfl w
    · exact of_two 28 (by decide) (by decide) _ rfl w
    · exact of_two 29 (by decide) (by decide) _ rfl w
    · exact of_two 30 (by decide) (by decide) _ rfl w
    · exact of_two 31 (by decide) (by decide) _ rfl w
    · exact of_two 32 (by decide) (by decide) _ rfl w
    · exact of_one 41 (by decide) (by decide) _ rfl w
    · exact of_one 42 (by decide) (by decide) _ rfl w
    · exact of_one 43 (by decide) (by decide) _ rfl w

/-- may's answer -/
def mayB (r : Int) (has : Bool) : Bool := (r == 0) || (has && decide (0 < r) && decide (r < 16))
theorem may_any (r : Int) (has : Bool) (w : World) : Calls Tryd.prog 21 #[.int .i64 r, .bool has] w fun e w' => e = .returned (.bool (mayB r has)) ∧ w = w' := by
  have e0 : (r == 0) = decide (r = 0) := by rw [Bool.eq_iff_iff]; simp
  by_cases h0 : r = 0
  · subst h0
    go_enter Tryd.func21, Tryd.ntmps21
    go_wp2
    go_ret
    exact ⟨by simp [mayB], rfl⟩
  · have f0 : (r == 0) = false := by simp [h0]
    cases has
    · go_enter Tryd.func21, Tryd.ntmps21
      go_wp2
      go_ret
      exact ⟨by simp [mayB, h0], rfl⟩
    · by_cases h1 : 0 < r
      · have f1 : decide (0 < r) = true := by simp [h1]
        go_enter Tryd.func21, Tryd.ntmps21
        go_wp2
        go_ret
        exact ⟨by simp [mayB, h0, h1], rfl⟩
      · have f1 : decide (0 < r) = false := by simp; omega
        go_enter Tryd.func21, Tryd.ntmps21
        go_wp2
        go_ret
        exact ⟨by simp [mayB, h0]; omega, rfl⟩

/-- the reference's reg -/
def regB (has : Bool) (r : Int) : Bool := (has && decide (0 ≤ r) && decide (r ≤ 15)) || (!has && (r == 0))
theorem reg_any (r : Int) (has : Bool) (w : World) : Calls Tryd.prog 22 #[.bool has, .int .i64 r] w fun e w' => e = .returned (.bool (regB has r)) ∧ w = w' := by
  cases has
  · go_enter Tryd.func22, Tryd.ntmps22
    go_wp2
    go_ret
    exact ⟨by simp [regB], rfl⟩
  · by_cases h1 : 0 ≤ r
    · have f1 : decide (0 ≤ r) = true := by simp [h1]
      by_cases h2 : r ≤ 15
      · have f2 : decide (r ≤ 15) = true := by simp [h2]
        go_enter Tryd.func22, Tryd.ntmps22
        go_wp2
        go_ret
        exact ⟨by simp [regB, h1, h2], rfl⟩
      · have f2 : decide (r ≤ 15) = false := by simp; omega
        go_enter Tryd.func22, Tryd.ntmps22
        go_wp2
        go_ret
        exact ⟨by simp [regB, h1, h2], rfl⟩
    · have f1 : decide (0 ≤ r) = false := by simp; omega
      go_enter Tryd.func22, Tryd.ntmps22
      go_wp2
      go_ret
      exact ⟨by simp [regB]; omega, rfl⟩
theorem mayreg (r : Int) (has : Bool) : mayB r has = regB has r := by
  rw [Bool.eq_iff_iff]; cases has <;> simp [mayB, regB] <;> omega

theorem num_any (n : Int) (w : World) : Calls Tryd.prog 12 #[.int .i64 n] w fun e w' => e = .returned (.int .i64 n) ∧ w = w' := by
  go_enter Tryd.func12, Tryd.ntmps12
  go_wp2
  go_ret
  exact ⟨rfl, rfl⟩
end Go.Proofs.YtpgooplokmemnaaDoor
