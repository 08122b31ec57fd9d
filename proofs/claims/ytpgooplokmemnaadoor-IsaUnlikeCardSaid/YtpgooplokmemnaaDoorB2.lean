/- The walk of the reference's Text. -/
import Derived.Test.YtpgooplokmemnaaDoorB1
namespace Go.Proofs.YtpgooplokmemnaaDoor
open Go Go.RowKit IsaP
set_option maxHeartbeats 4000000
set_option maxRecDepth 100000

theorem cat (l l' : List UInt8) : (⟨l.toArray⟩ : ByteArray) ++ ⟨l'.toArray⟩ = ⟨(l ++ l').toArray⟩ := by
  apply ByteArray.ext
  simp
theorem cat_r (l : List UInt8) : (⟨l.toArray⟩ : ByteArray) ++ ⟨#[32, 114]⟩ = ⟨(l ++ [32, 114]).toArray⟩ := cat l [32, 114]
theorem cat_s (l : List UInt8) : (⟨l.toArray⟩ : ByteArray) ++ ⟨#[32]⟩ = ⟨(l ++ [32]).toArray⟩ := cat l [32]

theorem join_one (x s : List UInt8) : Lib.join [x] s = x := by simp [Lib.join]
theorem join_more (x y s : List UInt8) (l : List (List UInt8)) : Lib.join (x :: y :: l) s = x ++ (s ++ Lib.join (y :: l) s) := by
  unfold Lib.join
  rw [List.intercalate_cons_cons]
  simp
theorem has_all (r : Int) : (r = 0 → hasB r 1 = false ∧ hasB r 2 = false ∧ hasB r 4 = false) ∧ (r = 1 → hasB r 1 = true ∧ hasB r 2 = false ∧ hasB r 4 = false) ∧ (r = 3 → hasB r 1 = true ∧ hasB r 2 = true ∧ hasB r 4 = false) ∧ (r = 7 → hasB r 1 = true ∧ hasB r 2 = true ∧ hasB r 4 = true) := by
  refine ⟨?_, ?_, ?_, ?_⟩ <;> (rintro rfl; decide)
theorem text2_at (op imm r a b c : Int) (s : List UInt8) (m k : Bool) (hr : r = 0 ∨ r = 1 ∨ r = 3 ∨ r = 7) (ha : 0 ≤ a ∧ a < 100) (hb : 0 ≤ b ∧ b < 100) (hc : 0 ≤ c ∧ c < 100) (hi0 : -2147483648 ≤ imm) (hi1 : imm ≤ 2147483647) (hs : s.length ≤ 10)
    (hus : ∀ w, Calls Tryd.prog 17 #[.int .i64 op] w fun e w' => e = .returned (.tuple #[.int .i64 r, .bool m, .bool k]) ∧ w = w')
    (hnm : ∀ w, Calls Tryd.prog 26 #[.int .i64 op] w fun e w' => e = .returned (.string ⟨s.toArray⟩) ∧ w = w')
    (W : Int) (hen : ∀ w, Calls Tryd.prog 11 #[.agg #[.int .i64 op, .int .i64 a, .int .i64 b, .int .i64 c, .int .i64 imm]] w fun e w' => e = .returned (.tuple #[.int .i64 W, .int .i64 0]) ∧ Below w.heap.size w w') (w : World) :
    Calls Tryd.prog 15 #[.agg #[.int .i64 op, .int .i64 a, .int .i64 b, .int .i64 c, .int .i64 imm]] w fun e w' => e = .returned (.string ⟨(Lib.join (parts s r m a b c imm) [32]).toArray⟩) ∧ Below w.heap.size w w' := by
  have la := Lib.itoa_length_le a (by omega) (by omega)
  have lb := Lib.itoa_length_le b (by omega) (by omega)
  have lc := Lib.itoa_length_le c (by omega) (by omega)
  have li := Lib.itoa_length_le imm (by omega) (by omega)
  have k1 := cat
  have k2 := cat_r
  have k3 := cat_s
  obtain rfl | rfl | rfl | rfl := hr <;> cases m
  all_goals
    go_enter Tryd.func15, Tryd.ntmps15
    go_wp2_with (first | (go_at_call 11; refine (hen _).mono ?_; rintro e w2 ⟨rfl, hb⟩; refine Hid.out ?_))
    refine Lib.hid ?_
    obtain ⟨hk, hb2⟩ := alloc_known hb
    clear hb hen
    have hlt : w.heap.size < w2.heap.size := (Array.getElem?_eq_some_iff.1 hk).1
    have c0 : w2.cell? ⟨w.heap.size, 0, none⟩ = some (.int .i64 op) := by simp [World.cell?, hk]
    have c1 : w2.cell? ⟨w.heap.size, 1, none⟩ = some (.int .i64 a) := by simp [World.cell?, hk]
    have c2 : w2.cell? ⟨w.heap.size, 2, none⟩ = some (.int .i64 b) := by simp [World.cell?, hk]
    have c3 : w2.cell? ⟨w.heap.size, 3, none⟩ = some (.int .i64 c) := by simp [World.cell?, hk]
    have c4 : w2.cell? ⟨w.heap.size, 4, none⟩ = some (.int .i64 imm) := by simp [World.cell?, hk]
    have HB := Lib.hid hb2
    clear hk hb2
    go_wp2_with (first | (go_at_call 17; refine (hus _).mono ?_; rintro e w3 ⟨rfl, rfl⟩) | (go_at_call 26; refine (hnm _).mono ?_; rintro e w4 ⟨rfl, rfl⟩) | (go_at_call 27; refine (Number_any _ _ (by omega) (by omega)).mono ?_; rintro e w5 ⟨rfl, hb5⟩; have c1 := (hb5.cell (p := ⟨w.heap.size, 1, none⟩) hlt).trans c1; have c2 := (hb5.cell (p := ⟨w.heap.size, 2, none⟩) hlt).trans c2; have c3 := (hb5.cell (p := ⟨w.heap.size, 3, none⟩) hlt).trans c3; have c4 := (hb5.cell (p := ⟨w.heap.size, 4, none⟩) hlt).trans c4; have HB := Lib.hid (HB.out.trans (hb5.mono (Nat.le_of_lt hlt))); have hlt := Nat.lt_of_lt_of_le hlt hb5.size; clear hb5))
    go_ret
    refine ⟨?_, HB.out⟩
    first | (obtain ⟨e1, e2, e4⟩ := (has_all _).1 rfl; simp only [parts, e1, e2, e4]; simp [regP, regT, join_one, join_more]; done) | (obtain ⟨e1, e2, e4⟩ := (has_all _).2.1 rfl; simp only [parts, e1, e2, e4]; simp [regP, regT, join_one, join_more]; done) | (obtain ⟨e1, e2, e4⟩ := (has_all _).2.2.1 rfl; simp only [parts, e1, e2, e4]; simp [regP, regT, join_one, join_more]; done) | (obtain ⟨e1, e2, e4⟩ := (has_all _).2.2.2 rfl; simp only [parts, e1, e2, e4]; simp [regP, regT, join_one, join_more]; done)

/-- an instruction's text -/
def txt (op a b c imm : Int) : List UInt8 := if encB (rg op) (im op) (ok op) a b c imm then Lib.join (parts (nm op) (rg op) (im op) a b c imm) [32] else []
theorem enc_bounds (op a b c imm : Int) (h : encB (rg op) (im op) (ok op) a b c imm = true) : (0 ≤ a ∧ a ≤ 15) ∧ (0 ≤ b ∧ b ≤ 15) ∧ (0 ≤ c ∧ c ≤ 15) ∧ -2147483648 ≤ imm ∧ imm ≤ 2147483647 ∧ ok op = true ∧ (im op || imm == 0) = true ∧ mayB a (hasB (rg op) 1) = true ∧ mayB b (hasB (rg op) 2) = true ∧ mayB c (hasB (rg op) 4) = true := by
  unfold encB at h
  simp only [Bool.and_eq_true, decide_eq_true_eq] at h
  obtain ⟨⟨⟨⟨⟨⟨h1, h2⟩, h3⟩, h4⟩, h5⟩, h6⟩, h7⟩ := h
  exact ⟨mayB_le _ _ h2, mayB_le _ _ h3, mayB_le _ _ h4, h6, h7, h1, h5, h2, h3, h4⟩
theorem nm_len (op : Int) : (nm op).length ≤ 10 := by
  cases h : ok op
  · rw [(not_ok op h).1]; simp
  · obtain rfl | rfl | rfl | rfl | rfl | rfl | rfl | rfl | rfl | rfl | rfl | rfl | rfl | rfl | rfl | rfl | rfl | rfl | rfl | rfl | rfl | rfl | rfl | rfl | rfl | rfl | rfl | rfl | rfl | rfl | rfl | rfl | rfl | rfl | rfl := ok_cases op h <;> decide
theorem text_any (op a b c imm : Int) (w : World) (htab : Lib.TabIs Tryd.prog w "internal/strconv.uint64pow10" .u64 Lib.pow10Tab) :
    Calls Tryd.prog 14 #[.agg #[.int .i64 op, .int .i64 a, .int .i64 b, .int .i64 c, .int .i64 imm]] w fun e w' => e = .returned (.string ⟨(txt op a b c imm).toArray⟩) ∧ Below w.heap.size w w' := by
  cases h : encB (rg op) (im op) (ok op) a b c imm
  · have HE := fun w => enc_no op a b c imm w h
    rw [txt, h]
    clear h
    go_enter Tryd.func14, Tryd.ntmps14
    go_wp2_with (first | (go_at_call 10; refine (HE _).mono ?_; rintro e w2 ⟨rfl, hb⟩; obtain ⟨hk, hb2⟩ := alloc_known hb; clear hb))
    go_ret
    exact ⟨rfl, hb2⟩
  · obtain ⟨ha, hb, hc, h0, h1, -⟩ := enc_bounds op a b c imm h
    rw [txt, if_pos h]
    obtain ⟨a', rfl⟩ := Int.eq_ofNat_of_zero_le ha.1
    obtain ⟨b', rfl⟩ := Int.eq_ofNat_of_zero_le hb.1
    obtain ⟨c', rfl⟩ := Int.eq_ofNat_of_zero_le hc.1
    exact text_at op imm (rg op) a' b' c' (nm op) (im op) (ok op) (rg_forms op) (by omega) (by omega) (by omega) h0 h1 (nm_len op) (of_any op) _ (fun w => enc_yes op a' b' c' imm w h) w htab
theorem text2_any (op a b c imm : Int) (w : World) :
    Calls Tryd.prog 15 #[.agg #[.int .i64 op, .int .i64 a, .int .i64 b, .int .i64 c, .int .i64 imm]] w fun e w' => e = .returned (.string ⟨(txt op a b c imm).toArray⟩) ∧ Below w.heap.size w w' := by
  cases h : encB (rg op) (im op) (ok op) a b c imm
  · have HE := fun w => enc2_no op a b c imm op a b c imm w h ⟨rfl, rfl, rfl, rfl, rfl⟩
    rw [txt, h]
    clear h
    go_enter Tryd.func15, Tryd.ntmps15
    go_wp2_with (first | (go_at_call 11; refine (HE _).mono ?_; rintro e w2 ⟨rfl, hb⟩; obtain ⟨hk, hb2⟩ := alloc_known hb; clear hb))
    go_ret
    exact ⟨rfl, hb2⟩
  · obtain ⟨ha, hb, hc, h0, h1, -⟩ := enc_bounds op a b c imm h
    rw [txt, if_pos h]
    exact text2_at op imm (rg op) a b c (nm op) (im op) (ok op) (rg_forms op) (by omega) (by omega) (by omega) h0 h1 (nm_len op) (uses2_any op) (name_any op) _ (fun w => enc2_yes op a b c imm op a b c imm w h ⟨rfl, rfl, rfl, rfl, rfl⟩) w
end Go.Proofs.YtpgooplokmemnaaDoor
