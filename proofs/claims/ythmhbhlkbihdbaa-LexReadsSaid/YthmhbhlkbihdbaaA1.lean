/- Walks of the small functions of the lexer and of its reference: letters, digits, words, names. -/
import Derived.Test.YthmhbhlkbihdbaaRows
import Derived.Test.YthmhbhlkbihdbaaA0
import Derived.WalkKit
import Derived.WalkSpells
import Derived.WalkLawsBesides
import Derived.Lib.Hide
import Derived.Lib.Strings
import Derived.Deep.QuietTactic
import Derived.BigQuiet
namespace Go.Proofs.Ythmhbhlkbihdbaa
open Go.RowKit LexP

theorem ret_bool {a b : Bool} (h : a = b) : Ending.returned (.bool a) = .returned (.bool b) := by rw [h]
theorem ret_int {k : IntKind} {a b : Int} (h : a = b) : Ending.returned (.int k a) = .returned (.int k b) := by rw [h]

theorem drop_at (s : ByteArray) (k : Nat) (h : k < s.size) : s.data.toList.drop k = s[k] :: s.data.toList.drop (k + 1) := by
  have : k < s.data.toList.length := by simpa using h
  rw [List.drop_eq_getElem_cons this]
  rfl
theorem drop_end (s : ByteArray) (k : Nat) (h : s.size ≤ k) : s.data.toList.drop k = [] := by
  apply List.drop_eq_nil_of_le
  simpa using h
theorem len_L (s : ByteArray) : s.data.toList.length = s.size := by simp

set_option maxHeartbeats 400000 in
theorem digit_any (c : Int) (w : World) :
    Calls Try.prog 29 #[.int .u8 c] w fun e w' => e = .returned (.bool (digitI c)) ∧ w = w' := by
  go_enter Try.func29, Try.ntmps29
  go_wp2
  all_goals go_ret
  all_goals (refine ⟨ret_bool ?_, rfl⟩; rw [Bool.eq_iff_iff]; simp [digitI, *]; try omega)

set_option maxHeartbeats 400000 in
theorem letter_any (c : Int) (w : World) :
    Calls Try.prog 24 #[.int .u8 c] w fun e w' => e = .returned (.bool (letterI c)) ∧ w = w' := by
  go_enter Try.func24, Try.ntmps24
  go_wp2
  all_goals go_ret
  all_goals (refine ⟨ret_bool ?_, rfl⟩; rw [Bool.eq_iff_iff]; simp [letterI, *]; try omega)

set_option maxHeartbeats 400000 in
theorem Digit_any (c : Int) (w : World) :
    Calls Try.prog 27 #[.int .u8 c] w fun e w' => e = .returned (.bool (digitI c)) ∧ w = w' := by
  go_enter Try.func27, Try.ntmps27
  go_wp2
  all_goals go_ret
  all_goals (refine ⟨ret_bool ?_, rfl⟩; rw [Bool.eq_iff_iff]; simp [digitI, *]; try omega)

set_option maxHeartbeats 400000 in
theorem Letter_any (c : Int) (w : World) :
    Calls Try.prog 26 #[.int .u8 c] w fun e w' => e = .returned (.bool (letterI c)) ∧ w = w' := by
  go_enter Try.func26, Try.ntmps26
  go_wp2
  all_goals go_ret
  all_goals (refine ⟨ret_bool ?_, rfl⟩; rw [Bool.eq_iff_iff]; simp [letterI, *]; try omega)

set_option maxHeartbeats 400000 in
theorem run_any (s : ByteArray) (w : World) (hs : s.size ≤ maxLen) :
    Calls Try.prog 25 #[.string s] w fun e w' => e = .returned (.int .i64 (wrun s.data.toList)) ∧ w = w' := by
  unfold maxLen at hs
  go_enter Try.func25, Try.ntmps25
  go_wp2
  go_loop [6] (fun i => ∃ k : Nat, k ≤ s.size ∧ i = .int .i64 k ∧ Hid (wrun s.data.toList = k + wrun (s.data.toList.drop k))) (fun i => s.size - (intOf i).toNat)
  case atStart => exact ⟨0, Nat.zero_le _, rfl, by simp [Hid]⟩
  case round =>
    obtain ⟨k, hk, rfl, H⟩ := hrel
    by_cases hlt : k < s.size
    · have HD := Lib.hid (drop_at s k hlt)
      go_wp2_with (first | (go_at_call 24; refine (letter_any _ _).mono ?_; rintro e w' ⟨rfl, rfl⟩) | (go_at_call 29; refine (digit_any _ _).mono ?_; rintro e w' ⟨rfl, rfl⟩))
      · refine ⟨⟨k + 1, by omega, by go_num, ?_⟩, by simp [intOf]; omega⟩
        show wrun s.data.toList = _
        rw [H.out, HD.out, wrun, if_pos (by simp [wordC, *])]; omega
      · go_ret
        refine ⟨ret_int ?_, rfl⟩
        have h1 : letterI s[k].toNat = false := by simpa using ‹¬ letterI s[k].toNat = true›
        have h2 : digitI s[k].toNat = false := by simpa using ‹(!digitI s[k].toNat) = true›
        rw [H.out, HD.out, wrun, if_neg (by simp [wordC, h1, h2])]; simp
      · refine ⟨⟨k + 1, by omega, by go_num, ?_⟩, by simp [intOf]; omega⟩
        have h2 : digitI s[k].toNat = true := by simpa using ‹(!digitI s[k].toNat) = false›
        show wrun s.data.toList = _
        rw [H.out, HD.out, wrun, if_pos (by simp [wordC, h2])]; omega
    · have HD := Lib.hid (drop_end s k (by omega))
      go_wp2
      go_ret
      refine ⟨ret_int ?_, rfl⟩
      rw [H.out, HD.out, wrun]; go_num

set_option maxRecDepth 100000 in
set_option maxHeartbeats 1000000 in
theorem word_any (s : ByteArray) (w : World) :
    Calls Try.prog 16 #[.string s] w fun e w' => e = .returned (.bool (wordL s.data.toList)) ∧ w = w' := by
  have hl := ByteArray.toList_eq s
  generalize hq : wordL s.data.toList = q
  have hq2 : wordL s.toList = q := by rw [hl, hq]
  have HQ := Lib.hid hq2
  clear hl hq hq2
  go_enter Try.func16, Try.ntmps16
  go_wp2_with (go_quiet (fail))
  all_goals go_ret
  all_goals (refine ⟨ret_bool ?_, rfl⟩; rw [← HQ.out]; simp_all [wordL])

set_option maxRecDepth 100000 in
set_option maxHeartbeats 1000000 in
theorem Word_any (s : ByteArray) (w : World) :
    Calls Try.prog 17 #[.string s] w fun e w' => e = .returned (.bool (wordL s.data.toList)) ∧ w = w' := by
  have hl := ByteArray.toList_eq s
  generalize hq : wordL s.data.toList = q
  have hq2 : wordL s.toList = q := by rw [hl, hq]
  have HQ := Lib.hid hq2
  clear hl hq hq2
  go_enter Try.func17, Try.ntmps17
  go_wp2_with (go_quiet (fail))
  all_goals go_ret
  all_goals (refine ⟨ret_bool ?_, rfl⟩; rw [← HQ.out]; simp_all [wordL])

end Go.Proofs.Ythmhbhlkbihdbaa
