/- The walk of the reference's Number, of a number that is not negative. -/
import Derived.Test.YthmhbhlkbihdbaaD0
import Derived.Test.YthmhbhlkbihdbaaB2
namespace Go.Proofs.Ythmhbhlkbihdbaa
open Go.RowKit LexP

/-- string([]byte{x}) -/
theorem one_byte (w : World) (X : Int) : (convert 36 9 (.slice (some ⟨w.heap.size, 0, none⟩) 1 1)).run Try.prog (w.alloc (.cells #[.int .u8 X] 5)) = .ok (.string ⟨[UInt8.ofNat X.toNat].toArray⟩) (w.alloc (.cells #[.int .u8 X] 5)) := by
  refine run_convert_bytes_arg _ 36 5 Try.underlying36 Try.underlying5 w.heap.size 0 1 1 [X] rfl ?_ 9 Try.underlying9
  intro i hi
  have : i = 0 := by omega
  subst this
  rw [World.cell?_alloc_at _ _ _ _ rfl]; rfl

theorem ba_cons (x : UInt8) (l : List UInt8) : (ByteArray.mk #[x]) ++ (ByteArray.mk l.toArray) = ⟨(x :: l).toArray⟩ := by
  apply ByteArray.ext
  simp

theorem ba_snoc (x : UInt8) (l : List UInt8) : ((ByteArray.mk l.toArray) ++ (ByteArray.mk #[x])).data.toList = l ++ [x] := by
  simp
theorem ba_front (x : UInt8) (l : List UInt8) : ((ByteArray.mk #[x]) ++ (ByteArray.mk l.toArray)).data.toList = x :: l := by
  simp

set_option maxRecDepth 100000 in
set_option maxHeartbeats 1000000 in
theorem Number_any (n : Nat) (w : World) (hn : n ≤ 9223372036854775807) : Calls Try.prog 15 #[.int .i64 n] w fun e w' => e = .returned (.string ⟨(numL n).toArray⟩) ∧ Below w.heap.size w w' := by
  by_cases h0 : n = 0
  · subst h0
    go_enter Try.func15, Try.ntmps15
    go_wp2
    go_ret
    exact ⟨rfl, Below.refl _ _⟩
  have HN := Lib.hid (show numL n = digs 20 n [] by rw [numL, if_neg h0])
  have h1 : ((n : Int) == 0) = false := by simp; omega
  have hp20 : n < 10 ^ 20 := by omega
  have HP := Lib.hid hp20
  clear hp20
  go_enter Try.func15, Try.ntmps15
  go_wp2_with fail
  go_loopw [3, 4] (fun v i wr => ∃ (f m : Nat) (acc : List UInt8), i = .int .i64 m ∧ m ≤ n ∧ acc.length + f ≤ 20 ∧ Hid (m < 10 ^ f) ∧ v = .string ⟨acc.toArray⟩ ∧ Below w.heap.size w wr ∧ Hid (numL n = digs f m acc)) (fun _ i _ => (intOf i).toNat)
  case atStart => exact ⟨20, n, [], rfl, Nat.le_refl _, by simp, HP.out, rfl, Below.refl _ _, HN.out⟩
  case round =>
    obtain ⟨f, m, acc, rfl, hm, hfl, hf, rfl, hb, H⟩ := hrel
    have HB := Lib.hid hb
    have hsz := hb.size
    clear hb
    have hcv := fun X => one_byte wr X
    by_cases hz : m = 0
    · have e0 : ((m : Int) != 0) = false := by simp; omega
      go_wp2_with fail
      go_ret
      refine ⟨?_, HB.out⟩
      subst hz
      rw [H.out]
      cases f <;> rfl
    · have e0 : ((m : Int) != 0) = true := by simp; omega
      cases f with
      | zero => exact absurd hf.out (by simp; omega)
      | succ f =>
      go_wp2_with fail
      refine ⟨⟨f, m / 10, (48 + UInt8.ofNat (m % 10)) :: acc, by go_num, by omega, by simp; omega, ?_, ?_, HB.out.alloc hsz _, ?_⟩, by simp [intOf]; omega⟩
      · have := hf.out; show m / 10 < 10 ^ f; rw [Nat.pow_succ] at this; omega
      · rw [ba_cons]
      · show _ = _
        rw [H.out, digs, if_neg hz]
end Go.Proofs.Ythmhbhlkbihdbaa
