/- The walk of number. -/
import Derived.Test.YthmhbhlkbihdbaaA5
namespace Go.Proofs.Ythmhbhlkbihdbaa
open Go.RowKit LexP

def numR (l : List UInt8) : Option Tk := (numT (l.take (wrun l))).map fun v => ⟨3, wrun l, l.take (wrun l), v⟩

theorem digV_at (t : ByteArray) (k : Nat) (h : k < t.size) (x : Int) : digV x (t.data.toList.drop k) =
    if digitI t[k].toNat && decide (x ≤ (9223372036854775807 - ((t[k].toNat : Int) - 48)) / 10) then digV (x * 10 + ((t[k].toNat : Int) - 48)) (t.data.toList.drop (k + 1)) else none := by
  rw [drop_at t k h, digV]
theorem headIs_at (t : ByteArray) (h : 0 < t.size) (n : Int) : headIs n t.data.toList = ((t[0].toNat : Int) == n) := by
  have := drop_at t 0 h
  simp only [List.drop_zero] at this
  rw [this]; rfl

set_option maxRecDepth 100000 in
set_option maxHeartbeats 2000000 in
theorem numberR_any (R : Nat) (s : ByteArray) (p : Nat) (tv : Value) (n : Nat) (xs : List Value) (w : World) (hs : s.size ≤ maxLen) (hp : p ≤ s.size) (hn : n ≤ 100000)
    (hr : Rd w R s p tv) (hown : w.ownsRow (R + 1) 31 4 tv n xs) :
    Calls Try.prog 30 #[.pointer (some ⟨R, 0, none⟩)] w (OneP w R s p n xs (numR (s.data.toList.drop p))) := by
  unfold maxLen at hs
  have h0 := hr.c0
  have h1 := hr.c1
  have HR := Lib.hid hr
  have HO := Lib.hid hown
  clear hr hown
  go_enter Try.func30, Try.ntmps30
  go_wp2_with fail
  go_quiet ((go_at_call 25; exact Calls.quiet_of_same ((run_any _ _ (by unfold maxLen; simp; omega)).mono fun _ _ ⟨a, b⟩ => ⟨a, b.symm⟩)))
  generalize hm : wrun (s.extract p s.size).data.toList = m
  rw [extract_end] at hm
  have hml := wrun_le (s.data.toList.drop p)
  rw [hm] at hml
  have hmle : p + m ≤ s.size := by simp at hml; omega
  have HM := Lib.hid hm
  clear hm hml
  have hwr : IntKind.i64.wrap ((p : Int) + (m : Int)) = (p : Int) + (m : Int) := IntWalk.i64_in _ (by omega)
  have hnn : 0 ≤ (p : Int) + (m : Int) := by omega
  have htn : ((p : Int) + (m : Int)).toNat = p + m := by omega
  have hlt2 : (p : Int) + (m : Int) ≤ (s.size : Int) := by omega
  go_wp2_with fail
  go_quiet (fail)
  clear hwr hnn hlt2
  have ht0 := extract_mid s p m
  have ht1 := extract_mk s p (p + m)
  rw [Nat.add_sub_cancel_left] at ht1
  have hts : (s.extract p (p + m)).size = m := by simp; omega
  generalize s.extract p (p + m) = t at *
  have HT0 := Lib.hid ht0
  have HT1 := Lib.hid ht1
  have HTS := Lib.hid hts
  have htm : t.size ≤ m := by omega
  clear ht0 ht1 hts
  have HN := Lib.hid (show numR (s.data.toList.drop p) = (numT t.data.toList).map fun v => ⟨3, m, t.data.toList, v⟩ by rw [numR, HM.out, HT0.out])
  have HZ0 : ∀ h : 0 < t.size, headIs 48 t.data.toList = ((t[0].toNat : Int) == 48) := fun h => headIs_at t h 48
  have HZ1 := Lib.hid HZ0
  clear HZ0
  by_cases hc : ∃ h : 1 < t.size, ((t[0].toNat : Int) == 48) = true
  · obtain ⟨hc1, hc2⟩ := hc
    go_wp2_with fail
    go_ret
    have hz : numT t.data.toList = none := by
      rw [numT, if_pos (by rw [HZ1.out (by omega), hc2, len_L, decide_eq_true (by omega)]; rfl)]
    rw [HN.out, hz]
    exact ⟨rfl, tv, HR.out, HO.out, below_drewN (Below.refl _ _) _⟩
  have HZ := Lib.hid (show numT t.data.toList = digV 0 t.data.toList by
    rw [numT, if_neg]
    intro hh
    rw [len_L, Bool.and_eq_true, decide_eq_true_eq] at hh
    exact hc ⟨hh.1, by rw [← HZ1.out (by omega)]; exact hh.2⟩)
  have hc' : t.size ≤ 1 ∨ ∃ h : 1 < t.size, ((t[0].toNat : Int) == 48) = false := by
    by_cases h1 : 1 < t.size
    · right
      refine ⟨h1, ?_⟩
      cases h2 : ((t[0].toNat : Int) == 48)
      · rfl
      · exact absurd ⟨h1, h2⟩ hc
    · left; omega
  clear hc HZ1
  rcases hc' with hc1 | ⟨hc1, hc2⟩
  all_goals
    go_wp2_with fail
    go_loop [5, 43] (fun v i => ∃ (k : Nat) (x : Int), k ≤ t.size ∧ i = .int .i64 k ∧ v = .int .i64 x ∧ 0 ≤ x ∧ x ≤ 9223372036854775807 ∧ Hid (numT t.data.toList = digV x (t.data.toList.drop k))) (fun _ i => t.size - (intOf i).toNat)
    case atStart => exact ⟨0, 0, Nat.zero_le _, rfl, rfl, by omega, by omega, HZ.out⟩
    case round =>
      obtain ⟨k, x, hk, rfl, rfl, hx0, hx1, H⟩ := hrel
      by_cases hlt : k < t.size
      · have HD := Lib.hid (digV_at t k hlt x)
        have hb1 : (t[k].toNat : Int) < 256 := by have := t[k].toNat_lt; omega
        have hb0 : 0 ≤ (t[k].toNat : Int) := by omega
        by_cases hdg : digitI t[k].toNat = true
        · have hd2 : 48 ≤ (t[k].toNat : Int) ∧ (t[k].toNat : Int) ≤ 57 := by simpa [digitI] using hdg
          obtain ⟨hd3, hd4⟩ := hd2
          go_wp2_with (go_at_call 29; refine (digit_any _ _).mono ?_; rintro e w' ⟨rfl, rfl⟩)
          · go_ret
            rw [HN.out, H.out, HD.out, hdg, decide_eq_false (by omega)]
            exact ⟨rfl, tv, HR.out, HO.out, below_drewN (Below.refl _ _) _⟩
          · exact ⟨⟨k + 1, _, by omega, by go_num, rfl, by omega, by omega, by show _ = _; rw [H.out, HD.out, hdg, decide_eq_true (by omega)]; rfl⟩, by simp [intOf]; omega⟩
        · have hdg : digitI t[k].toNat = false := by simpa using hdg
          go_wp2_with (go_at_call 29; refine (digit_any _ _).mono ?_; rintro e w' ⟨rfl, rfl⟩)
          go_ret
          rw [HN.out, H.out, HD.out, hdg]
          exact ⟨rfl, tv, HR.out, HO.out, below_drewN (Below.refl _ _) _⟩
      · have HD := Lib.hid (drop_end t k (by omega))
        go_wp2_with fail
        refine (put_any R s p tv n xs 3 m _ x _ (by unfold maxLen; omega) hn (HR.out.drew _) HO.out).mono ?_
        rintro e w1 ⟨rfl, hw1⟩
        go_wp2
        go_ret
        have hv : numT t.data.toList = some x := by rw [H.out, HD.out]; rfl
        rw [HN.out, hv]
        refine ⟨rfl, ?_⟩
        have hz := hw1.base
        exact hz
end Go.Proofs.Ythmhbhlkbihdbaa
