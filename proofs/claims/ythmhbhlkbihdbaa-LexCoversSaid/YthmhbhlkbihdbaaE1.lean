/- The walk of between: blanks and remarks alone; and plain facts on what lies between tokens. -/
import Derived.Test.YthmhbhlkbihdbaaC4
namespace LexP
theorem blank_take (l : List UInt8) : ∀ b, blankGo b (l.take (blankGo b l)) = blankGo b l := by
  induction l with
  | nil => intro b; cases b <;> rfl
  | cons c r ih =>
    have h1 := ih true
    have h2 := ih false
    intro b
    cases b
    · by_cases hw : wsI c.toNat = true
      · have e1 : blankGo false (c :: r) = blankGo false r + 1 := by rw [blankGo, if_pos hw]
        rw [e1, List.take_succ_cons, blankGo, if_pos hw, h2]
      · by_cases h47 : ((c.toNat : Int) == 47 && headIs 47 r) = true
        · have e1 : blankGo false (c :: r) = blankGo true r + 1 := by rw [blankGo, if_neg hw, if_pos h47]
          have hr : headIs 47 (r.take (blankGo true r)) = true := by
            cases r with
            | nil => simp [headIs] at h47
            | cons d r =>
              have : ∃ m, blankGo true (d :: r) = m + 1 := by rw [blankGo]; split <;> exact ⟨_, rfl⟩
              obtain ⟨m, hm⟩ := this
              rw [hm, List.take_succ_cons]
              simp only [Bool.and_eq_true] at h47
              exact h47.2
          have h48 : ((c.toNat : Int) == 47 && headIs 47 (r.take (blankGo true r))) = true := by
            simp only [Bool.and_eq_true] at h47 ⊢; exact ⟨h47.1, hr⟩
          rw [e1, List.take_succ_cons, blankGo, if_neg hw, if_pos h48, h1]
        · have e1 : blankGo false (c :: r) = 0 := by rw [blankGo, if_neg hw, if_neg h47]
          rw [e1]; rfl
    · by_cases hw : ((c.toNat : Int) == 10) = true
      · have e1 : blankGo true (c :: r) = blankGo false r + 1 := by rw [blankGo, if_pos hw]
        rw [e1, List.take_succ_cons, blankGo, if_pos hw, h2]
      · have e1 : blankGo true (c :: r) = blankGo true r + 1 := by rw [blankGo, if_neg hw]
        rw [e1, List.take_succ_cons, blankGo, if_neg hw, h1]
end LexP
namespace Go.Proofs.Ythmhbhlkbihdbaa
open Go.RowKit LexP

set_option maxRecDepth 100000 in
set_option maxHeartbeats 2000000 in
theorem between_any (s : ByteArray) (w : World) (hs : s.size ≤ 100000) :
    Calls Try.prog 14 #[.string s] w fun e w' => e = .returned (.bool (decide (bl false s 0 = s.size))) ∧ w = w' := by
  go_enter Try.func14, Try.ntmps14
  generalize hz : decide (bl false s 0 = s.size) = z
  have HZ := Lib.hid hz
  clear hz
  go_wp2_with fail
  go_loop [3] (fun i => ∃ p : Nat, p ≤ s.size ∧ i = .int .i64 p ∧ Hid (bl false s 0 = bl false s p)) (fun i => s.size - (intOf i).toNat)
  case atStart => exact ⟨0, by omega, rfl, rfl⟩
  case round =>
    obtain ⟨p, hp, rfl, HE⟩ := hrel
    by_cases hlt : p < s.size
    case neg =>
      go_wp2_with fail
      go_ret
      refine ⟨ret_bool ?_, rfl⟩
      rw [← HZ.out, HE.out, bl_end false s p (by omega), decide_eq_true (by omega)]
    by_cases hws : wsI s[p].toNat = true
    · have HN := Lib.hid (bl_ws s p hlt hws)
      simp only [wsI, Bool.or_eq_true, beq_iff_eq] at hws
      rcases hws with ((h | h) | h) | h
      all_goals
        go_wp2_with fail
        exact ⟨⟨p + 1, by omega, by go_num, HE.out.trans HN.out⟩, by simp [intOf]; omega⟩
    have hws : wsI s[p].toNat = false := by simpa using hws
    have HWS := Lib.hid hws
    simp only [wsI, Bool.or_eq_false_iff] at hws
    obtain ⟨⟨⟨f1, f2⟩, f3⟩, f4⟩ := hws
    by_cases hn : p + 1 < s.size
    case neg =>
      have HF := Lib.hid (show z = false by
        rw [← HZ.out, HE.out, bl_no s p hlt HWS.out (by rw [headIs_end s _ (by omega)]; simp)]
        exact decide_eq_false (by omega))
      go_wp2_with fail
      go_ret
      exact ⟨ret_bool HF.out.symm, rfl⟩
    by_cases h47 : ((s[p].toNat : Int) == 47) = true
    case neg =>
      have h47 : ((s[p].toNat : Int) == 47) = false := by simpa using h47
      have HF := Lib.hid (show z = false by
        rw [← HZ.out, HE.out, bl_no s p hlt HWS.out (by rw [h47]; rfl)]
        exact decide_eq_false (by omega))
      have h47' : ((s[p].toNat : Int) != 47) = true := by rw [bne, h47]; rfl
      go_wp2_with fail
      all_goals go_ret
      all_goals exact ⟨ret_bool HF.out.symm, rfl⟩
    have h47' : ((s[p].toNat : Int) != 47) = false := by rw [bne, h47]; rfl
    have hwr : IntKind.i64.wrap ((p : Int) + 1) = (p : Int) + 1 := IntWalk.i64_in _ (by omega)
    have hlt2 : (p : Int) + 1 < (s.size : Int) := by omega
    by_cases h2 : ((s[p + 1].toNat : Int) == 47) = true
    case neg =>
      have h2 : ((s[p + 1].toNat : Int) == 47) = false := by simpa using h2
      have HF := Lib.hid (show z = false by
        rw [← HZ.out, HE.out, bl_no s p hlt HWS.out (by rw [headIs_no s _ hn h2]; simp)]
        exact decide_eq_false (by omega))
      have h2' : ((s[p + 1].toNat : Int) != 47) = true := by rw [bne, h2]; rfl
      clear hwr
      go_wp2_with fail
      all_goals go_ret
      all_goals exact ⟨ret_bool HF.out.symm, rfl⟩
    have hE2 := Lib.hid (bl_rem s p hlt HWS.out h47 hn h2)
    have h2' : ((s[p + 1].toNat : Int) != 47) = false := by rw [bne, h2]; rfl
    clear hwr
    go_wp2_with fail
    go_loop [3] (fun i => ∃ q : Nat, p ≤ q ∧ q ≤ s.size ∧ i = .int .i64 q ∧ Hid (bl false s 0 = bl true s q)) (fun i => s.size - (intOf i).toNat)
    case atStart => exact ⟨p, by omega, hp, rfl, HE.out.trans hE2.out⟩
    case round =>
      obtain ⟨q, hpq, hq, rfl, HE3⟩ := hrel
      by_cases hlt3 : q < s.size
      · by_cases h10 : ((s[q].toNat : Int) != 10) = true
        · go_wp2_with fail
          exact ⟨⟨q + 1, by omega, by omega, by go_num, HE3.out.trans (bl_in s q hlt3 (by simpa using h10))⟩, by simp [intOf]; omega⟩
        · have hne : q ≠ p := by
            intro he
            subst he
            simp at h10 h47
            omega
          have h10' : ((s[q].toNat : Int) != 10) = false := by simpa using h10
          clear h10
          go_wp2_with fail
          exact ⟨⟨q, by omega, rfl, HE3.out.trans (bl_nl s q hlt3 (by simpa using h10'))⟩, by simp [intOf]; omega⟩
      · go_wp2_with fail
        exact ⟨⟨q, by omega, rfl, HE3.out.trans ((bl_end _ s q (by omega)).trans (bl_end _ s q (by omega)).symm)⟩, by simp [intOf]; omega⟩
end Go.Proofs.Ythmhbhlkbihdbaa
