/- The walk of the reference's Number. -/
import Derived.Test.YtpgooplokmemnaaDoorA9
import Derived.Laws.BytesArg
namespace Go.Proofs.YtpgooplokmemnaaDoor
open Go Go.RowKit IsaP
set_option maxHeartbeats 1000000
set_option maxRecDepth 100000

theorem one_byte (w : World) (X : Int) : (convert 61 9 (.slice (some ⟨w.heap.size, 0, none⟩) 1 1)).run Tryd.prog (w.alloc (.cells #[.int .u8 X] 5)) = .ok (.string ⟨[UInt8.ofNat X.toNat].toArray⟩) (w.alloc (.cells #[.int .u8 X] 5)) := by
  refine run_convert_bytes_arg _ 61 5 Tryd.underlying61 Tryd.underlying5 w.heap.size 0 1 1 [X] rfl ?_ 9 Tryd.underlying9
  intro i hi
  have : i = 0 := by omega
  subst this
  rw [World.cell?_alloc_at _ _ _ _ rfl]; rfl
theorem ba_cons (x : UInt8) (l : List UInt8) : (ByteArray.mk #[x]) ++ (ByteArray.mk l.toArray) = ⟨(x :: l).toArray⟩ := by
  apply ByteArray.ext
  simp
/-- the digits; none at nought -/
def dd0 (m : Nat) : List UInt8 := if m = 0 then [] else Lib.decDigits m
theorem dd_step (m : Nat) (h : m ≠ 0) : dd0 m = dd0 (m / 10) ++ [48 + UInt8.ofNat (m % 10)] := by
  have e : ∀ k : Nat, UInt8.ofNat (48 + k) = 48 + UInt8.ofNat k := fun k => by simp
  rw [dd0, if_neg h, Lib.decDigits]
  by_cases h1 : m < 10
  · rw [dif_pos h1, dd0, if_pos (by omega), e, Nat.mod_eq_of_lt h1]; rfl
  · rw [dif_neg h1, dd0, if_neg (by omega), e]
theorem dd0_len (m : Nat) (h : m ≤ 9223372036854775808) : (dd0 m).length ≤ 20 := by
  unfold dd0
  split
  · simp
  · rw [Lib.decDigits_length]; exact Lib.nDigits_le20 m (by omega)

theorem Number_pos (n : Nat) (w : World) (hn : n ≤ 9223372036854775807) : Calls Tryd.prog 27 #[.int .i64 n] w fun e w' => e = .returned (.string ⟨(Lib.itoa n).toArray⟩) ∧ Below w.heap.size w w' := by
  by_cases h0 : n = 0
  · subst h0
    go_enter Tryd.func27, Tryd.ntmps27
    go_wp2
    go_ret
    rw [show Lib.itoa ((0 : Nat) : Int) = [48] by rw [Lib.itoa_nonneg, Lib.decDigits_one (by omega)]; rfl]
    exact ⟨rfl, Below.refl _ _⟩
  have HN := Lib.hid (show Lib.itoa n = dd0 n by rw [Lib.itoa_nonneg, dd0, if_neg h0])
  have h1 : ((n : Int) == 0) = false := by simp; omega
  have hL := Lib.hid (dd0_len n (by omega))
  go_enter Tryd.func27, Tryd.ntmps27
  go_wp2_with fail
  go_loopw [3, 4] (fun v i wr => ∃ (m : Nat) (acc : List UInt8), i = .int .i64 m ∧ m ≤ n ∧ v = .string ⟨acc.toArray⟩ ∧ Below w.heap.size w wr ∧ Hid (dd0 n = dd0 m ++ acc)) (fun _ i _ => (intOf i).toNat)
  case atStart => exact ⟨n, [], rfl, Nat.le_refl _, rfl, Below.refl _ _, by simp [Hid]⟩
  case round =>
    obtain ⟨m, acc, rfl, hm, rfl, hb, H⟩ := hrel
    have HB := Lib.hid hb
    have hsz := hb.size
    clear hb
    have hacc : acc.length ≤ 20 := by have := hL.out; rw [H.out, List.length_append] at this; omega
    have hcv := fun X => one_byte wr X
    by_cases hz : m = 0
    · have e0 : ((m : Int) != 0) = false := by simp; omega
      go_wp2_with fail
      go_ret
      refine ⟨?_, HB.out⟩
      subst hz
      rw [HN.out, H.out]
      rfl
    · have e0 : ((m : Int) != 0) = true := by simp; omega
      go_wp2_with fail
      refine ⟨⟨m / 10, (48 + UInt8.ofNat (m % 10)) :: acc, by go_num, by omega, ?_, HB.out.alloc hsz _, ?_⟩, by simp [intOf]; omega⟩
      · rw [ba_cons]
      · show _ = _
        rw [H.out, dd_step m hz]; simp
theorem Number_neg (n : Nat) (w : World) (h0 : n ≠ 0) (hn : n ≤ 9223372036854775808) : Calls Tryd.prog 27 #[.int .i64 (-(n : Int))] w fun e w' => e = .returned (.string ⟨(Lib.itoa (-(n : Int))).toArray⟩) ∧ Below w.heap.size w w' := by
  have HN := Lib.hid (show Lib.itoa (-(n : Int)) = 45 :: dd0 n by rw [Lib.itoa_neg n (by omega), dd0, if_neg h0])
  have h1 : ((-(n : Int)) == 0) = false := by simp; omega
  have hL := Lib.hid (dd0_len n (by omega))
  go_enter Tryd.func27, Tryd.ntmps27
  go_wp2_with fail
  go_loopw [3, 4] (fun v i wr => ∃ (m : Nat) (acc : List UInt8), i = .int .i64 (-(m : Int)) ∧ m ≤ n ∧ v = .string ⟨acc.toArray⟩ ∧ Below w.heap.size w wr ∧ Hid (dd0 n = dd0 m ++ acc)) (fun _ i _ => (-intOf i).toNat)
  case atStart => exact ⟨n, [], rfl, Nat.le_refl _, rfl, Below.refl _ _, by simp [Hid]⟩
  case round =>
    obtain ⟨m, acc, rfl, hm, rfl, hb, H⟩ := hrel
    have HB := Lib.hid hb
    have hsz := hb.size
    clear hb
    have hacc : acc.length ≤ 20 := by have := hL.out; rw [H.out, List.length_append] at this; omega
    have hcv := fun X => one_byte wr X
    have et : (-(m : Int)).tmod 10 = -((m % 10 : Nat) : Int) := by rw [Int.neg_tmod]; rfl
    have eq : (-(m : Int)).tdiv 10 = -((m / 10 : Nat) : Int) := by rw [Int.neg_tdiv]; rfl
    by_cases hz : m = 0
    · have e0 : ((-(m : Int)) != 0) = false := by simp; omega
      go_wp2_with fail
      go_ret
      refine ⟨?_, HB.out⟩
      subst hz
      rw [HN.out, H.out, ba_cons]
      rfl
    · have e0 : ((-(m : Int)) != 0) = true := by simp; omega
      by_cases hd : m % 10 = 0
      all_goals
        go_wp2_with fail
        refine ⟨⟨m / 10, (48 + UInt8.ofNat (m % 10)) :: acc, by go_num, by omega, ?_, HB.out.alloc hsz _, ?_⟩, by simp [intOf]; omega⟩
      · rw [ba_cons, hd]; rfl
      · show _ = _
        rw [H.out, dd_step m hz]; simp
      · rw [ba_cons]
      · show _ = _
        rw [H.out, dd_step m hz]; simp
theorem Number_any (n : Int) (w : World) (h0 : -9223372036854775808 ≤ n) (h1 : n ≤ 9223372036854775807) : Calls Tryd.prog 27 #[.int .i64 n] w fun e w' => e = .returned (.string ⟨(Lib.itoa n).toArray⟩) ∧ Below w.heap.size w w' := by
  by_cases h : 0 ≤ n
  · obtain ⟨k, rfl⟩ := Int.eq_ofNat_of_zero_le h
    exact Number_pos k w (by omega)
  · obtain ⟨k, hk⟩ := Int.eq_ofNat_of_zero_le (show 0 ≤ -n by omega)
    have : n = -(k : Int) := by omega
    subst this
    exact Number_neg k w (by omega) (by omega)
end Go.Proofs.YtpgooplokmemnaaDoor
