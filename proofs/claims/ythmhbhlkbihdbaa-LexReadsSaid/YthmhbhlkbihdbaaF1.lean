/- The walk of the reference's blank. -/
import Derived.Test.YthmhbhlkbihdbaaC4
namespace Go.Proofs.Ythmhbhlkbihdbaa
open Go.RowKit LexP

set_option maxRecDepth 100000 in
set_option maxHeartbeats 2000000 in
theorem Blank_any (s : ByteArray) (p0 : Nat) (w : World) (hs : s.size ≤ 100000) (hp0 : p0 ≤ s.size) :
    Calls Try.prog 33 #[.string s, .int .i64 p0] w fun e w' => e = .returned (.int .i64 (bl false s p0)) ∧ w = w' := by
  go_enter Try.func33, Try.ntmps33
  generalize hz : bl false s p0 = z
  have HZ := Lib.hid hz
  clear hz
  go_wp2_with fail
  go_loop [1] (fun i => ∃ p : Nat, p ≤ s.size ∧ i = .int .i64 p ∧ Hid (z = bl false s p)) (fun i => s.size - (intOf i).toNat)
  case atStart => exact ⟨p0, by omega, rfl, HZ.out.symm⟩
  case round =>
    obtain ⟨p, hp, rfl, HE⟩ := hrel
    by_cases hlt : p < s.size
    case neg =>
      go_wp2_with fail
      go_ret
      exact ⟨ret_int (by rw [HE.out, bl_end false s p (by omega)]), rfl⟩
    by_cases hws : wsI s[p].toNat = true
    · have HN := Lib.hid (bl_ws s p hlt hws)
      simp only [wsI, Bool.or_eq_true, beq_iff_eq] at hws
      rcases hws with ((h | h) | h) | h
      all_goals
        go_wp2_with fail
        exact ⟨⟨p + 1, by omega, by go_num, HE.out.trans HN.out⟩, by simp [intOf]; omega⟩
    have hws : wsI s[p].toNat = false := by simpa using hws
    have HWS := Lib.hid hws
    simp only [wsI, Bool.or_eq_false_iff] at hws
    obtain ⟨⟨⟨f1, f2⟩, f3⟩, f4⟩ := hws
    by_cases h47 : ((s[p].toNat : Int) == 47) = true
    case neg =>
      have h47 : ((s[p].toNat : Int) == 47) = false := by simpa using h47
      have HF := Lib.hid (show z = p by rw [HE.out, bl_no s p hlt HWS.out (by rw [h47]; rfl)])
      have h47' : ((s[p].toNat : Int) != 47) = true := by rw [bne, h47]; rfl
      go_wp2_with fail
      all_goals go_ret
      all_goals exact ⟨ret_int (by rw [HF.out]), rfl⟩
    have h47' : ((s[p].toNat : Int) != 47) = false := by rw [bne, h47]; rfl
    by_cases hn : p + 1 < s.size
    case neg =>
      have HF := Lib.hid (show z = p by rw [HE.out, bl_no s p hlt HWS.out (by rw [headIs_end s _ (by omega)]; simp)])
      go_wp2_with fail
      go_ret
      exact ⟨ret_int (by rw [HF.out]), rfl⟩
    have hwr : IntKind.i64.wrap ((p : Int) + 1) = (p : Int) + 1 := IntWalk.i64_in _ (by omega)
    have hlt2 : (p : Int) + 1 < (s.size : Int) := by omega
    by_cases h2 : ((s[p + 1].toNat : Int) == 47) = true
    case neg =>
      have h2 : ((s[p + 1].toNat : Int) == 47) = false := by simpa using h2
      have HF := Lib.hid (show z = p by rw [HE.out, bl_no s p hlt HWS.out (by rw [headIs_no s _ hn h2]; simp)])
      have h2' : ((s[p + 1].toNat : Int) != 47) = true := by rw [bne, h2]; rfl
      clear hwr
      go_wp2_with fail
      all_goals go_ret
      all_goals exact ⟨ret_int (by rw [HF.out]), rfl⟩
    have hE2 := Lib.hid (bl_rem s p hlt HWS.out h47 hn h2)
    have h2' : ((s[p + 1].toNat : Int) != 47) = false := by rw [bne, h2]; rfl
    clear hwr
    go_wp2_with fail
    go_loop [1] (fun i => ∃ q : Nat, p ≤ q ∧ q ≤ s.size ∧ i = .int .i64 q ∧ Hid (z = bl true s q)) (fun i => s.size - (intOf i).toNat)
    case atStart => exact ⟨p, by omega, hp, rfl, HE.out.trans hE2.out⟩
    case round =>
      obtain ⟨q, hpq, hq, rfl, HE3⟩ := hrel
      by_cases hlt3 : q < s.size
      · by_cases h10 : ((s[q].toNat : Int) != 10) = true
        · go_wp2_with fail
          exact ⟨⟨q + 1, by omega, by omega, by go_num, HE3.out.trans (bl_in s q hlt3 (by simpa using h10))⟩, by simp [intOf]; omega⟩
        · have hne : q ≠ p := by
            intro he
            subst he
            simp at h10 h47
            omega
          have h10' : ((s[q].toNat : Int) != 10) = false := by simpa using h10
          clear h10
          go_wp2_with fail
          exact ⟨⟨q, by omega, rfl, HE3.out.trans (bl_nl s q hlt3 (by simpa using h10'))⟩, by simp [intOf]; omega⟩
      · go_wp2_with fail
        exact ⟨⟨q, by omega, rfl, HE3.out.trans ((bl_end _ s q (by omega)).trans (bl_end _ s q (by omega)).symm)⟩, by simp [intOf]; omega⟩
end Go.Proofs.Ythmhbhlkbihdbaa
