/- The walk of the reference's Decode. -/
import Derived.Test.YtpgooplokmemnaaDoorA6
import Derived.Laws.Bits64b
namespace Go.Proofs.YtpgooplokmemnaaDoor
open Go Go.RowKit IsaP
set_option maxHeartbeats 4000000
set_option maxRecDepth 100000

theorem enc2_no (op a b c imm o a' b' c' i' : Int) (w : World) (h : encB (rg op) (im op) (ok op) a b c imm = false) (e : o = op ∧ a' = a ∧ b' = b ∧ c' = c ∧ i' = imm) :
    Calls Tryd.prog 11 #[.agg #[.int .i64 o, .int .i64 a', .int .i64 b', .int .i64 c', .int .i64 i']] w fun e w' => e = .returned (.tuple #[.int .i64 0, .int .i64 4]) ∧ Below w.heap.size w w' := by
  obtain ⟨rfl, rfl, rfl, rfl, rfl⟩ := e
  have := enc2_any o a' b' c' i' w
  rw [encRes, h] at this; exact this
theorem enc2_yes (op a b c imm o a' b' c' i' : Int) (w : World) (h : encB (rg op) (im op) (ok op) a b c imm = true) (e : o = op ∧ a' = a ∧ b' = b ∧ c' = c ∧ i' = imm) :
    Calls Tryd.prog 11 #[.agg #[.int .i64 o, .int .i64 a', .int .i64 b', .int .i64 c', .int .i64 i']] w fun e w' => e = .returned (.tuple #[.int .i64 (encW op a b c imm), .int .i64 0]) ∧ Below w.heap.size w w' := by
  obtain ⟨rfl, rfl, rfl, rfl, rfl⟩ := e
  have := enc2_any o a' b' c' i' w
  rw [encRes, h] at this; exact this
theorem and15 (x : Int) (h0 : 0 ≤ x) (h1 : x < 18446744073709551616) : bits BinOp.and IntKind.u64 x 15 = x % 16 := by
  obtain ⟨n, rfl⟩ := Int.eq_ofNat_of_zero_le h0
  have := bits_and_u64_nat n 15 (by omega) (by decide)
  rw [show (15 : Int) = ((15 : Nat) : Int) from rfl]
  refine this.trans ?_
  rw [show (15 : Nat) = 2 ^ 4 - 1 from rfl, Nat.and_two_pow_sub_one_eq_mod]
  omega
theorem u64w (v : Int) : IntKind.u64.wrap v = v % 18446744073709551616 := by simp [IntKind.wrap, IntKind.bits, IntKind.signed]
theorem fields (v : Int) (h0 : 0 ≤ v) (h1 : v ≤ 9223372036854775807) : dO v = v / 72057594037927936 ∧ dA v = v / 4503599627370496 % 16 ∧ dB v = v / 281474976710656 % 16 ∧ dC v = v / 17592186044416 % 16 ∧ dI v = (if v % 4294967296 > 2147483647 then v % 4294967296 - 4294967296 else v % 4294967296) := by
  have hu : IntKind.u64.wrap v = v := by rw [u64w]; omega
  unfold dO dA dB dC dI
  rw [hu, and15 _ (by omega) (by omega), and15 _ (by omega) (by omega), and15 _ (by omega) (by omega)]
  refine ⟨w64 _ (by omega) (by omega), w64 _ (by omega) (by omega), w64 _ (by omega) (by omega), w64 _ (by omega) (by omega), ?_⟩
  rw [w64 _ (by unfold wrap32; omega) (by unfold wrap32; omega)]
  unfold wrap32
  split <;> omega
theorem dO_neg (v : Int) (h0 : v < 0) (h1 : -9223372036854775808 ≤ v) : decB v = false := by
  have : ok (dO v) = false := by
    unfold dO
    rw [u64w, w64 _ (by omega) (by omega)]
    simp [ok]
    omega
  rw [decB, encB, this]; rfl
end Go.Proofs.YtpgooplokmemnaaDoor
