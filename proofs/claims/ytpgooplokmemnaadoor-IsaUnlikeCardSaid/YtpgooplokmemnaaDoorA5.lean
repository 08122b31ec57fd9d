/- The walk of the reference's Encode. -/
import Derived.Test.YtpgooplokmemnaaDoorA4
import Derived.Laws.BitsLemmas
namespace Go.Proofs.YtpgooplokmemnaaDoor
open Go Go.RowKit IsaP
set_option maxHeartbeats 4000000
set_option maxRecDepth 100000

theorem i64_join (i : Nat) (x y : Int) (hx0 : 0 ≤ x) (hx : x % 2 ^ i = 0) (hx1 : x < 9223372036854775808) (hy0 : 0 ≤ y) (hy : y < 2 ^ i) (hy1 : y < 9223372036854775808) : bits .or .i64 x y = x + y :=
  bits_join .i64 63 (by decide) (fun n h0 h1 => IntWalk.i64_in n ⟨by omega, by omega⟩) i x y hx0 hx hx1 hy0 hy hy1
theorem w64 (n : Int) (h0 : -9223372036854775808 ≤ n) (h1 : n ≤ 9223372036854775807) : wrap64 n = n := by unfold wrap64; omega
/-- the word of what may be written -/
def word (op a b c imm : Int) : Int := op * 72057594037927936 + a * 4503599627370496 + b * 281474976710656 + c * 17592186044416 + imm % 4294967296
theorem encW_eq (op a b c imm : Int) (h0 : 0 ≤ op ∧ op ≤ 43) (ha : 0 ≤ a ∧ a ≤ 15) (hb : 0 ≤ b ∧ b ≤ 15) (hc : 0 ≤ c ∧ c ≤ 15) : encW op a b c imm = word op a b c imm := by
  unfold encW word
  rw [w64 (op * _) (by omega) (by omega), w64 (a * _) (by omega) (by omega), w64 (b * _) (by omega) (by omega), w64 (c * _) (by omega) (by omega)]
  rw [i64_join 56 (op * 72057594037927936) (a * 4503599627370496) (by omega) (by omega) (by omega) (by omega) (by omega) (by omega)]
  rw [i64_join 52 (op * 72057594037927936 + a * 4503599627370496) (b * 281474976710656) (by omega) (by omega) (by omega) (by omega) (by omega) (by omega)]
  rw [i64_join 48 (op * 72057594037927936 + a * 4503599627370496 + b * 281474976710656) (c * 17592186044416) (by omega) (by omega) (by omega) (by omega) (by omega) (by omega)]
  rw [i64_join 44 (op * 72057594037927936 + a * 4503599627370496 + b * 281474976710656 + c * 17592186044416) (imm % 4294967296) (by omega) (by omega) (by omega) (by omega) (by omega) (by omega)]
theorem mayB_le (r : Int) (h : Bool) (hm : mayB r h = true) : 0 ≤ r ∧ r ≤ 15 := by
  simp [mayB] at hm
  omega
theorem has_forms (r : Int) (hr : r = 0 ∨ r = 1 ∨ r = 3 ∨ r = 7) : hasB r 1 = (r.tmod 2 == 1) ∧ hasB r 2 = ((wrap64 (r.tdiv 2)).tmod 2 == 1) ∧ hasB r 4 = decide (4 ≤ r) := by
  obtain rfl | rfl | rfl | rfl := hr <;> decide +kernel
theorem rg_forms (op : Int) : rg op = 0 ∨ rg op = 1 ∨ rg op = 3 ∨ rg op = 7 := by
  cases h : ok op
  · left; exact (not_ok op h).2.1
  · obtain rfl | rfl | rfl | rfl | rfl | rfl | rfl | rfl | rfl | rfl | rfl | rfl | rfl | rfl | rfl | rfl | rfl | rfl | rfl | rfl | rfl | rfl | rfl | rfl | rfl | rfl | rfl | rfl | rfl | rfl | rfl | rfl | rfl | rfl | rfl := ok_cases op h <;> decide

theorem enc_fin (op a b c imm r X : Int) (m k x1 x2 x4 : Bool) (e : hasB r 1 = x1 ∧ hasB r 2 = x2 ∧ hasB r 4 = x4) (hop : k = true → 0 ≤ op ∧ op ≤ 43)
    (hk : k = true) (ha : regB x1 a = true) (hb : regB x2 b = true) (hc : (!regB x4 c) = false) (hm : (m || imm == 0) = true) (h1 : -2147483648 ≤ imm) (h2 : imm ≤ 2147483647)
    (hX : 0 ≤ op ∧ op ≤ 43 → 0 ≤ a ∧ a ≤ 15 → 0 ≤ b ∧ b ≤ 15 → 0 ≤ c ∧ c ≤ 15 → X = word op a b c imm) : Value.tuple #[.int .i64 X, .int .i64 0] = encRes r m k op a b c imm := by
  obtain ⟨rfl, rfl, rfl⟩ := e
  rw [← mayreg] at ha hb hc
  have hc' : mayB c (hasB r 4) = true := by simpa using hc
  have hB : encB r m k a b c imm = true := by unfold encB; rw [hk, ha, hb, hc', hm]; simp [h1, h2]
  rw [encRes, hB, if_pos rfl, if_pos rfl, hX (hop hk) (mayB_le _ _ ha) (mayB_le _ _ hb) (mayB_le _ _ hc'), encW_eq _ _ _ _ _ (hop hk) (mayB_le _ _ ha) (mayB_le _ _ hb) (mayB_le _ _ hc')]
theorem word_sum (op a b c imm low : Int) (h0 : 0 ≤ op ∧ op ≤ 43) (ha : 0 ≤ a ∧ a ≤ 15) (hb : 0 ≤ b ∧ b ≤ 15) (hc : 0 ≤ c ∧ c ≤ 15) (hl : low = imm % 4294967296) :
    wrap64 (wrap64 (wrap64 (wrap64 (wrap64 (wrap64 (wrap64 (wrap64 (op * 16) + a) * 16) + b) * 16) * 17592186044416) + wrap64 (c * 17592186044416)) + low) = word op a b c imm := by
  subst hl
  rw [w64 (op * 16) (by omega) (by omega), w64 (op * 16 + a) (by omega) (by omega), w64 ((op * 16 + a) * 16) (by omega) (by omega), w64 ((op * 16 + a) * 16 + b) (by omega) (by omega), w64 (((op * 16 + a) * 16 + b) * 16) (by omega) (by omega),
    w64 (((op * 16 + a) * 16 + b) * 16 * 17592186044416) (by omega) (by omega), w64 (c * 17592186044416) (by omega) (by omega), w64 (((op * 16 + a) * 16 + b) * 16 * 17592186044416 + c * 17592186044416) (by omega) (by omega), w64 _ (by omega) (by omega), word]
  omega

theorem enc2_at (op a b c imm r : Int) (m k : Bool) (hr : r = 0 ∨ r = 1 ∨ r = 3 ∨ r = 7) (hop : k = true → 0 ≤ op ∧ op ≤ 43) (hof : ∀ w, Calls Tryd.prog 17 #[.int .i64 op] w fun e w' => e = .returned (.tuple #[.int .i64 r, .bool m, .bool k]) ∧ w = w') (w : World) :
    Calls Tryd.prog 11 #[.agg #[.int .i64 op, .int .i64 a, .int .i64 b, .int .i64 c, .int .i64 imm]] w fun e w' => e = .returned (encRes r m k op a b c imm) ∧ Below w.heap.size w w' := by
  have HR := Lib.hid (has_forms r hr)
  have HO := Lib.hid hop
  clear hr hop
  go_enter Tryd.func11, Tryd.ntmps11
  go_wp2_with (first | (go_at_call 17; refine (hof _).mono ?_; rintro e w2 ⟨rfl, rfl⟩) | (go_at_call 22; refine (reg_any _ _ _).mono ?_; rintro e w3 ⟨rfl, rfl⟩))
  all_goals (refine bodyPost_ret (v := .tuple #[.int .i64 _, .int .i64 _]) (by simp [results, Tryd.results11, go_sem]; exact ⟨rfl, rfl⟩) rfl ⟨?_, (Below.refl _ _).alloc (Nat.le_refl _) _⟩)
  all_goals (clear hof; have e := HR.out; have hop := HO.out; clear HR HO; congr 1)
  all_goals (try (have hz : imm = 0 := by (have hq := (by assumption : (imm != 0) = false); simpa using hq)))
  all_goals first | (refine enc_fin op a b c imm r _ m k _ _ _ e hop (by assumption) (by assumption) (by assumption) (by assumption) (by simp_all) (by omega) (by omega) (fun g1 g2 g3 g4 => word_sum op a b c imm _ g1 g2 g3 g4 (by omega)); done) | (obtain ⟨e1, e2, e4⟩ := e; unfold encRes; simp only [encB, e1, e2, e4, mayreg]; simp_all; done) | (obtain ⟨e1, e2, e4⟩ := e; unfold encRes; simp only [encB, e1, e2, e4, mayreg]; simp_all <;> first | (refine ⟨?_, ?_⟩ <;> intros <;> omega) | (intros; omega))
theorem enc2_any (op a b c imm : Int) (w : World) :
    Calls Tryd.prog 11 #[.agg #[.int .i64 op, .int .i64 a, .int .i64 b, .int .i64 c, .int .i64 imm]] w fun e w' => e = .returned (encRes (rg op) (im op) (ok op) op a b c imm) ∧ Below w.heap.size w w' :=
  enc2_at op a b c imm (rg op) (im op) (ok op) (rg_forms op) (fun h => by simp [ok] at h; omega) (uses2_any op) w
end Go.Proofs.YtpgooplokmemnaaDoor
