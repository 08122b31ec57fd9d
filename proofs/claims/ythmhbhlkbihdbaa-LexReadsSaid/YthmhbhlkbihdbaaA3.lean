/- Walks of Name, the program's and the reference's. -/
import Derived.Test.YthmhbhlkbihdbaaA1
namespace Go.Proofs.Ythmhbhlkbihdbaa
open Go.RowKit LexP

theorem headLetter_at (s : ByteArray) (h : 0 < s.size) : headLetter s.data.toList = letterI s[0].toNat := by
  have := drop_at s 0 h
  simp only [List.drop_zero] at this
  rw [this]; rfl

theorem wrun_step (s : ByteArray) (k : Nat) (h : k < s.size) : wrun (s.data.toList.drop k) = if wordC s[k] then wrun (s.data.toList.drop (k + 1)) + 1 else 0 := by
  rw [drop_at s k h, wrun]

set_option maxHeartbeats 400000 in
theorem name_any (s : ByteArray) (w : World) (hs : s.size ≤ maxLen) :
    Calls Try.prog 18 #[.string s] w fun e w' => e = .returned (.bool (nameL s.data.toList)) ∧ w = w' := by
  go_enter Try.func18, Try.ntmps18
  by_cases h0 : 0 < s.size
  · have e0 : s.toList.isEmpty = false := by rw [ByteArray.toList_eq]; cases h : s.data.toList <;> simp_all [← len_L]
    have HH := Lib.hid (headLetter_at s h0)
    go_wp2_with (first | (go_at_call 24; refine (letter_any _ _).mono ?_; rintro e w' ⟨rfl, rfl⟩) | (go_at_call 25; refine (run_any _ _ hs).mono ?_; rintro e w' ⟨rfl, rfl⟩) | (go_at_call 16; refine (word_any _ _).mono ?_; rintro e w' ⟨rfl, rfl⟩))
    all_goals go_ret
    all_goals (refine ⟨ret_bool ?_, rfl⟩; rw [nameL, HH.out, len_L, Bool.eq_iff_iff]; simp [*]; try omega)
  · have e0 : s.data.toList = [] := by cases h : s.data.toList <;> simp_all [← len_L]
    have e1 : s.toList.isEmpty = true := by rw [ByteArray.toList_eq, e0]; rfl
    have HE := Lib.hid e0
    clear e0
    go_wp2
    go_ret
    refine ⟨ret_bool ?_, rfl⟩; rw [HE.out]; rfl

set_option maxHeartbeats 400000 in
theorem Name_any (s : ByteArray) (w : World) (hs : s.size ≤ maxLen) :
    Calls Try.prog 19 #[.string s] w fun e w' => e = .returned (.bool (nameL s.data.toList)) ∧ w = w' := by
  unfold maxLen at hs
  go_enter Try.func19, Try.ntmps19
  by_cases h0 : 0 < s.size
  · have e0 : s.toList.isEmpty = false := by rw [ByteArray.toList_eq]; cases h : s.data.toList <;> simp_all [← len_L]
    have HH := Lib.hid (headLetter_at s h0)
    by_cases h1 : 16 < s.size
    · go_wp2
      go_ret
      refine ⟨ret_bool ?_, rfl⟩; rw [nameL, HH.out, len_L, decide_eq_false (by omega : ¬ s.size ≤ 16)]; simp
    by_cases h2 : letterI s[0].toNat = true
    case neg =>
      go_wp2_with (first | (go_at_call 26; refine (Letter_any _ _).mono ?_; rintro e w' ⟨rfl, rfl⟩))
      go_ret
      refine ⟨ret_bool ?_, rfl⟩; rw [nameL, HH.out]; simp [*]
    by_cases h3 : wordL s.data.toList = true
    case pos =>
      go_wp2_with (first | (go_at_call 26; refine (Letter_any _ _).mono ?_; rintro e w' ⟨rfl, rfl⟩) | (go_at_call 17; refine (Word_any _ _).mono ?_; rintro e w' ⟨rfl, rfl⟩))
      go_ret
      refine ⟨ret_bool ?_, rfl⟩; rw [nameL, HH.out, h3]; simp
    have h3 : wordL s.data.toList = false := by simpa using h3
    go_wp2_with (first | (go_at_call 26; refine (Letter_any _ _).mono ?_; rintro e w' ⟨rfl, rfl⟩) | (go_at_call 17; refine (Word_any _ _).mono ?_; rintro e w' ⟨rfl, rfl⟩))
    have HR := Lib.hid (show nameL s.data.toList = decide (wrun s.data.toList = s.size) by rw [nameL, HH.out, h2, h3, len_L]; simp; omega)
    clear h3
    go_loop [3] (fun i => ∃ k : Nat, k ≤ s.size ∧ i = .int .i64 k ∧ Hid (wrun s.data.toList = k + wrun (s.data.toList.drop k))) (fun i => s.size - (intOf i).toNat)
    case atStart => exact ⟨0, Nat.zero_le _, rfl, by simp [Hid]⟩
    case round =>
      obtain ⟨k, hk, rfl, H⟩ := hrel
      by_cases hlt : k < s.size
      · have HD := Lib.hid (wrun_step s k hlt)
        go_wp2_with (first | (go_at_call 26; refine (Letter_any _ _).mono ?_; rintro e w' ⟨rfl, rfl⟩) | (go_at_call 27; refine (Digit_any _ _).mono ?_; rintro e w' ⟨rfl, rfl⟩))
        · refine ⟨⟨k + 1, by omega, by go_num, ?_⟩, by simp [intOf]; omega⟩
          show wrun s.data.toList = _
          rw [H.out, HD.out, if_pos (by simp [wordC, *])]; omega
        · go_ret
          refine ⟨ret_bool ?_, rfl⟩
          have h1 : letterI s[k].toNat = false := by simpa using ‹¬ letterI s[k].toNat = true›
          have h2 : digitI s[k].toNat = false := by simpa using ‹(!digitI s[k].toNat) = true›
          rw [HR.out, H.out, HD.out, if_neg (by simp [wordC, h1, h2])]; simp; omega
        · refine ⟨⟨k + 1, by omega, by go_num, ?_⟩, by simp [intOf]; omega⟩
          have h2 : digitI s[k].toNat = true := by simpa using ‹(!digitI s[k].toNat) = false›
          show wrun s.data.toList = _
          rw [H.out, HD.out, if_pos (by simp [wordC, h2])]; omega
      · have HD := Lib.hid (drop_end s k (by omega))
        go_wp2
        go_ret
        refine ⟨ret_bool ?_, rfl⟩
        rw [HR.out, H.out, HD.out, wrun]; simp; omega
  · have e0 : s.data.toList = [] := by cases h : s.data.toList <;> simp_all [← len_L]
    have e1 : s.toList.isEmpty = true := by rw [ByteArray.toList_eq, e0]; rfl
    have HE := Lib.hid e0
    clear e0
    go_wp2
    go_ret
    refine ⟨ret_bool ?_, rfl⟩; rw [HE.out]; rfl
end Go.Proofs.Ythmhbhlkbihdbaa
