/- The walk of the reference's next. -/
import Derived.Test.YthmhbhlkbihdbaaF1
import Derived.Test.YthmhbhlkbihdbaaF2
import Derived.Test.YthmhbhlkbihdbaaF4
import Derived.RegionTactic
namespace LexP
theorem wordL_len (l : List UInt8) (h : wordL l = true) : l.length ≤ 16 := by
  simp only [wordL, Bool.or_eq_true, beq_iff_eq] at h
  rcases h with ((((((((((((((((((((((((((h|h)|h)|h)|h)|h)|h)|h)|h)|h)|h)|h)|h)|h)|h)|h)|h)|h)|h)|h)|h)|h)|h)|h)|h)|h)|h)|h <;> subst h <;> simp
end LexP
namespace Go.Proofs.Ythmhbhlkbihdbaa
open Go.RowKit LexP

set_option maxRecDepth 100000 in
set_option maxHeartbeats 2000000 in
theorem Next_letter (s : ByteArray) (p : Nat) (w : World) (hs : s.size ≤ 100000) (hp : p < s.size) (hle : letterI s[p].toNat = true) :
    Calls Try.prog 34 #[.string s, .int .i64 p] w (TokPost w p (wordT (s.data.toList.drop p))) := by
  go_enter Try.func34, Try.ntmps34
  go_wp2_with (go_at_call 26; refine (Letter_any _ _).mono ?_; rintro e w' ⟨rfl, rfl⟩)
  go_loop [7] (fun i => ∃ k : Nat, p ≤ k ∧ k ≤ s.size ∧ i = .int .i64 k ∧ Hid (wrun (s.data.toList.drop p) = (k - p) + wrun (s.data.toList.drop k))) (fun i => s.size - (intOf i).toNat)
  case atStart => exact ⟨p, by omega, by omega, rfl, by simp [Hid]⟩
  case round =>
    obtain ⟨k, hpk, hk, rfl, H⟩ := hrel
    by_cases hgo : ∃ h : k < s.size, wordC s[k] = true
    · obtain ⟨hlt, hwc⟩ := hgo
      have HN := Lib.hid (show wrun (s.data.toList.drop k) = wrun (s.data.toList.drop (k + 1)) + 1 by rw [wrun_step s k hlt, if_pos hwc])
      have hrel : ∃ k' : Nat, p ≤ k' ∧ k' ≤ s.size ∧ Value.int .i64 ((k : Int) + 1) = .int .i64 k' ∧ Hid (wrun (s.data.toList.drop p) = (k' - p) + wrun (s.data.toList.drop k')) :=
        ⟨k + 1, by omega, by omega, by go_num, by show _ = _; rw [H.out, HN.out]; omega⟩
      have HREL := Lib.hid hrel
      clear hrel
      cases hl : letterI s[k].toNat
      case true =>
        go_wp2_with (first | (go_at_call 26; refine (Letter_any _ _).mono ?_; rintro e w' ⟨rfl, rfl⟩) | (go_at_call 27; refine (Digit_any _ _).mono ?_; rintro e w' ⟨rfl, rfl⟩))
        exact ⟨HREL.out, by simp [intOf]; omega⟩
      case false =>
        have hdg : digitI s[k].toNat = true := by simpa [wordC, hl] using hwc
        clear hwc
        go_wp2_with (first | (go_at_call 26; refine (Letter_any _ _).mono ?_; rintro e w' ⟨rfl, rfl⟩) | (go_at_call 27; refine (Digit_any _ _).mono ?_; rintro e w' ⟨rfl, rfl⟩))
        exact ⟨HREL.out, by simp [intOf]; omega⟩
    · have hend : wrun (s.data.toList.drop p) = k - p := by
        rw [H.out]
        by_cases hlt : k < s.size
        · have hwc : wordC s[k] = false := by
            cases h : wordC s[k]
            · rfl
            · exact absurd ⟨hlt, h⟩ hgo
          rw [wrun_step s k hlt, if_neg (by rw [hwc]; simp)]; rfl
        · rw [drop_end s k (by omega)]; rfl
      have hcase : s.size ≤ k ∨ ∃ h : k < s.size, letterI s[k].toNat = false ∧ digitI s[k].toNat = false := by
        by_cases hlt : k < s.size
        · right
          refine ⟨hlt, ?_⟩
          cases h : wordC s[k]
          · simpa [wordC] using h
          · exact absurd ⟨hlt, h⟩ hgo
        · left; omega
      clear hgo
      have EX := Lib.hid (mid_mk' s p k hpk)
      have HW := Lib.hid (show wordT (s.data.toList.drop p) = if wordL ((s.data.toList.drop p).take (k - p)) then some ⟨2, k - p, (s.data.toList.drop p).take (k - p), 0⟩
          else if decide (k - p ≤ 16) then some ⟨1, k - p, (s.data.toList.drop p).take (k - p), 0⟩ else none by unfold wordT; rw [hend])
      have hln : ((s.data.toList.drop p).take (k - p)).length = k - p := by rw [List.length_take, ← hend, Nat.min_eq_left (wrun_len _)]
      have HLN := Lib.hid hln
      clear hend hln
      cases hwl : wordL ((s.data.toList.drop p).take (k - p))
      case true =>
        have hlen16 := wordL_len _ hwl
        rw [HLN.out] at hlen16
        have hd : decide ((k : Int) - (p : Int) ≤ 16) = true := by simp; omega
        have HF := Lib.hid (show wordT (s.data.toList.drop p) = _ by rw [HW.out, if_pos hwl])
        rcases hcase with g1 | ⟨g1, g2, g3⟩
        all_goals
          go_wp2_with (first | (go_at_call 26; refine (Letter_any _ _).mono ?_; rintro e w' ⟨rfl, rfl⟩) | (go_at_call 27; refine (Digit_any _ _).mono ?_; rintro e w' ⟨rfl, rfl⟩) | (go_at_call 17; refine (Word_any _ _).mono ?_; rintro e w' ⟨rfl, rfl⟩))
          refine bodyPost_ret (v := .tuple #[tokV ⟨2, (s.data.toList.drop p).take (k - p), 0, p⟩, .int .i64 k, .bool true]) (by simp [results, Try.results34, go_sem, tokV, EX.out]) rfl ⟨?_, ?_⟩
          · exact (((Below.refl _ _).alloc (Nat.le_refl _) _).alloc (by simp) _)
          · rw [HF.out]; show Ending.returned _ = Ending.returned _; rw [show ((p + (k - p) : Nat) : Int) = (k : Int) by omega]
      case false =>
        by_cases h16 : k - p ≤ 16
        · have hd : decide ((k : Int) - (p : Int) ≤ 16) = true := by simp; omega
          have HF := Lib.hid (show wordT (s.data.toList.drop p) = _ by rw [HW.out, if_neg (by rw [hwl]; simp), if_pos (by simpa using h16)])
          rcases hcase with g1 | ⟨g1, g2, g3⟩
          all_goals
            go_wp2_with (first | (go_at_call 26; refine (Letter_any _ _).mono ?_; rintro e w' ⟨rfl, rfl⟩) | (go_at_call 27; refine (Digit_any _ _).mono ?_; rintro e w' ⟨rfl, rfl⟩) | (go_at_call 17; refine (Word_any _ _).mono ?_; rintro e w' ⟨rfl, rfl⟩))
            refine bodyPost_ret (v := .tuple #[tokV ⟨1, (s.data.toList.drop p).take (k - p), 0, p⟩, .int .i64 k, .bool true]) (by simp [results, Try.results34, go_sem, tokV, EX.out]) rfl ⟨?_, ?_⟩
            · exact (((Below.refl _ _).alloc (Nat.le_refl _) _).alloc (by simp) _)
            · rw [HF.out]; show Ending.returned _ = Ending.returned _; rw [show ((p + (k - p) : Nat) : Int) = (k : Int) by omega]
        · have hd : decide ((k : Int) - (p : Int) ≤ 16) = false := by simp; omega
          have HF := Lib.hid (show wordT (s.data.toList.drop p) = none by rw [HW.out, if_neg (by rw [hwl]; simp), if_neg (by simpa using h16)])
          rcases hcase with g1 | ⟨g1, g2, g3⟩
          all_goals
            go_wp2_with (first | (go_at_call 26; refine (Letter_any _ _).mono ?_; rintro e w' ⟨rfl, rfl⟩) | (go_at_call 27; refine (Digit_any _ _).mono ?_; rintro e w' ⟨rfl, rfl⟩) | (go_at_call 17; refine (Word_any _ _).mono ?_; rintro e w' ⟨rfl, rfl⟩))
            refine bodyPost_ret (v := .tuple #[tokV ⟨1, (s.data.toList.drop p).take (k - p), 0, p⟩, .int .i64 k, .bool false]) (by simp [results, Try.results34, go_sem, tokV, EX.out]) rfl ⟨?_, ?_⟩
            · exact (((Below.refl _ _).alloc (Nat.le_refl _) _).alloc (by simp) _)
            · rw [HF.out]; exact ⟨_, _, rfl⟩
end Go.Proofs.Ythmhbhlkbihdbaa
