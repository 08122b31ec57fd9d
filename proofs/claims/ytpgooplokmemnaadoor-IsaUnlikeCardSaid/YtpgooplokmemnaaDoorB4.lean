/- What decoding does to what was encoded, in plain words; the walks of IsaTexts, IsaWords, IsaBack. -/
import Derived.Test.YtpgooplokmemnaaDoorB3
namespace Go.Proofs.YtpgooplokmemnaaDoor
open Go Go.RowKit Go.Sort IsaP
set_option maxHeartbeats 4000000
set_option maxRecDepth 100000

theorem enc_ok (op a b c imm : Int) (h : encB (rg op) (im op) (ok op) a b c imm = true) : (0 ≤ op ∧ op ≤ 43) ∧ (0 ≤ a ∧ a ≤ 15) ∧ (0 ≤ b ∧ b ≤ 15) ∧ (0 ≤ c ∧ c ≤ 15) ∧ -2147483648 ≤ imm ∧ imm ≤ 2147483647 := by
  obtain ⟨ha, hb, hc, h0, h1, hk, -⟩ := enc_bounds op a b c imm h
  simp [ok] at hk
  exact ⟨by omega, ha, hb, hc, h0, h1⟩
/-- a word's fields are what it was made of -/
theorem dec_enc (op a b c imm : Int) (h : encB (rg op) (im op) (ok op) a b c imm = true) :
    dO (encW op a b c imm) = op ∧ dA (encW op a b c imm) = a ∧ dB (encW op a b c imm) = b ∧ dC (encW op a b c imm) = c ∧ dI (encW op a b c imm) = imm := by
  obtain ⟨ho, ha, hb, hc, h0, h1⟩ := enc_ok op a b c imm h
  rw [encW_eq op a b c imm ho ha hb hc]
  have e : word op a b c imm = op * 72057594037927936 + a * 4503599627370496 + b * 281474976710656 + c * 17592186044416 + imm % 4294967296 := rfl
  obtain ⟨f0, f1, f2, f3, f4⟩ := fields (word op a b c imm) (by rw [e]; omega) (by rw [e]; omega)
  rw [f0, f1, f2, f3, f4, e]
  refine ⟨by omega, by omega, by omega, by omega, ?_⟩
  split <;> omega
theorem dec_of (op a b c imm : Int) (h : encB (rg op) (im op) (ok op) a b c imm = true) : decRes (encW op a b c imm) = .tuple #[inst op a b c imm, .int .i64 0] := by
  obtain ⟨e0, e1, e2, e3, e4⟩ := dec_enc op a b c imm h
  have hd : decB (encW op a b c imm) = true := by rw [decB, e0, e1, e2, e3, e4, h]; simp
  rw [decRes, hd, if_pos rfl, e0, e1, e2, e3, e4]
theorem join_ne (s : List UInt8) (l : List (List UInt8)) (h : s ≠ []) (sep : List UInt8) : Lib.join (s :: l) sep ≠ [] := by
  cases l with
  | nil => rw [join_one]; exact h
  | cons y l => rw [join_more]; intro e; exact h (List.append_eq_nil_iff.1 e).1
theorem txt_ne (op a b c imm : Int) (h : encB (rg op) (im op) (ok op) a b c imm = true) : txt op a b c imm ≠ [] := by
  obtain ⟨_, _, _, _, _, hk, -⟩ := enc_bounds op a b c imm h
  rw [txt, if_pos h, parts]
  refine join_ne _ _ ?_ _
  intro e
  have := nm_empty op
  rw [e, hk] at this
  cases this
theorem txt_no (op a b c imm : Int) (h : encB (rg op) (im op) (ok op) a b c imm = false) : txt op a b c imm = [] := by rw [txt, h]; rfl

/-- a text beside another: the code's and the reference's are one -/
theorem IsaTexts_any (op a b c imm : Int) (w : World) (ht : Hid (Tab w)) : Calls Tryd.prog 4 #[.agg #[.int .i64 op, .int .i64 a, .int .i64 b, .int .i64 c, .int .i64 imm]] w fun e w' => e = .returned (.bool true) ∧ Below w.heap.size w w' := by
  have h1 := fun w => text_any op a b c imm w
  have h2 := fun w => text2_any op a b c imm w
  generalize txt op a b c imm = X at h1 h2
  obtain ⟨w1, hw1⟩ : ∃ w1, w1 = w.alloc (.cells #[.int .i64 op, .int .i64 a, .int .i64 b, .int .i64 c, .int .i64 imm] 23) := ⟨_, rfl⟩
  have hk : w1.heap[w.heap.size]? = some (.cells #[.int .i64 op, .int .i64 a, .int .i64 b, .int .i64 c, .int .i64 imm] 23) := by rw [hw1]; exact heap_alloc_new w _
  have hb1 : Below w.heap.size w w1 := by rw [hw1]; exact (Below.refl _ _).alloc (Nat.le_refl _) _
  have HT1 := Lib.hid (tab_of ht hb1)
  have k0 := cell_regrown (show w1.cell? ⟨w.heap.size, 0, none⟩ = some (.int .i64 op) by simp [World.cell?, hk])
  have k1 := cell_regrown (show w1.cell? ⟨w.heap.size, 1, none⟩ = some (.int .i64 a) by simp [World.cell?, hk])
  have k2 := cell_regrown (show w1.cell? ⟨w.heap.size, 2, none⟩ = some (.int .i64 b) by simp [World.cell?, hk])
  have k3 := cell_regrown (show w1.cell? ⟨w.heap.size, 3, none⟩ = some (.int .i64 c) by simp [World.cell?, hk])
  have k4 := cell_regrown (show w1.cell? ⟨w.heap.size, 4, none⟩ = some (.int .i64 imm) by simp [World.cell?, hk])
  have cX := fun d os => Calls.regrown_of (h1 _ (tab_of HT1 (below_regrown w1 d os)))
  have cY := fun d os => Calls.regrown_of (h2 (grow (redrawn w1 d) os))
  have cZ := fun d os => Calls.regrown_of (awake_any _ (Lib.hid (tab_of HT1 (below_regrown w1 d os))))
  have HB1 := Lib.hid hb1
  clear hk hb1 h1 h2 HT1
  go_enter Tryd.func4, Tryd.ntmps4
  subst hw1
  go_wp2_with (refine wp_region_quiet_below (by kernel_rfl) (by kernel_rfl) ?_; (repeat (quiet_step (first | exact cX _ _ | exact cY _ _ | exact cZ _ _))); refine wpQuiet_nil ?_; intro _ hw'; obtain ⟨⟨dq, osq⟩, hw''⟩ := hw'; subst hw'')
  go_wp2
  go_ret
  exact ⟨rfl, HB1.out.trans ((below_regrown _ dq osq).mono HB1.out.size)⟩
theorem IsaWords_any (v : Int) (h0 : -9223372036854775808 ≤ v) (h1 : v ≤ 9223372036854775807) (w : World) (ht : Hid (Tab w)) : Calls Tryd.prog 9 #[.int .i64 v] w fun e w' => e = .returned (.bool true) ∧ Below w.heap.size w w' := by
  have hd := fun w => dec_any v w
  cases hB : decB v
  · have hr : decRes v = .tuple #[inst 0 0 0 0 0, .int .i64 4] := by rw [decRes, hB]; rfl
    rw [hr] at hd
    simp only [inst] at hd
    clear hB hr
    go_enter Tryd.func9, Tryd.ntmps9
    go_wp2_with (first | (go_at_call 18; refine (hd _).mono ?_; rintro e w2 ⟨rfl, hb⟩; have HB := Lib.hid hb; clear hb) | (go_at_call 12; refine (num_any _ _).mono ?_; rintro e w4 ⟨rfl, rfl⟩) | (go_at_call 13; refine (awake_any _ (Lib.hid (tab_of ht (HB.out.alloc HB.out.size _)))).mono ?_; rintro e w5 ⟨rfl, hb5⟩))
    go_ret
    exact ⟨rfl, (HB.out.alloc HB.out.size _).trans (hb5.mono (HB.out.alloc HB.out.size _).size)⟩
  · have hr : decRes v = .tuple #[inst (dO v) (dA v) (dB v) (dC v) (dI v), .int .i64 0] := by rw [decRes, hB]; rfl
    rw [hr] at hd
    simp only [inst] at hd
    have hn : 0 ≤ v := by
      by_cases h : v < 0
      · rw [dO_neg v h h0] at hB; cases hB
      · omega
    rw [decB, Bool.and_eq_true, beq_iff_eq] at hB
    obtain ⟨hE, hW⟩ := hB
    have he := fun w => enc_yes (dO v) (dA v) (dB v) (dC v) (dI v) w hE
    rw [hW] at he
    clear hE hW hr
    generalize dO v = o at hd he
    generalize dA v = a at hd he
    generalize dB v = b at hd he
    generalize dC v = c at hd he
    generalize dI v = i at hd he
    go_enter Tryd.func9, Tryd.ntmps9
    go_wp2_with (first | (go_at_call 18; refine (hd _).mono ?_; rintro e w2 ⟨rfl, hb⟩; have HB := Lib.hid hb; clear hb) | (go_at_call 12; refine (num_any _ _).mono ?_; rintro e w4 ⟨rfl, rfl⟩) | (go_at_call 10; refine (he _).mono ?_; rintro e w3 ⟨rfl, hb⟩; have HB := Lib.hid ((HB.out.alloc HB.out.size _).trans (hb.mono (HB.out.alloc HB.out.size _).size)); clear hb) | (go_at_call 13; refine (awake_any _ (Lib.hid (tab_of ht HB.out))).mono ?_; rintro e w5 ⟨rfl, hb5⟩))
    go_ret
    exact ⟨rfl, HB.out.trans (hb5.mono HB.out.size)⟩
theorem IsaBack_any (op a b c imm : Int) (w : World) (ht : Hid (Tab w)) : Calls Tryd.prog 8 #[.agg #[.int .i64 op, .int .i64 a, .int .i64 b, .int .i64 c, .int .i64 imm]] w fun e w' => e = .returned (.bool true) ∧ Below w.heap.size w w' := by
  have hx := fun w => text_any op a b c imm w
  cases hB : encB (rg op) (im op) (ok op) a b c imm
  · have he := fun w => enc_no op a b c imm w hB
    rw [txt_no op a b c imm hB] at hx
    clear hB
    go_enter Tryd.func8, Tryd.ntmps8
    go_wp2_with (first | (go_at_call 10; refine (he _).mono ?_; rintro e w2 ⟨rfl, hb⟩; refine Hid.out ?_))
    refine Lib.hid ?_
    obtain ⟨hk, hb2⟩ := alloc_known hb
    have c0 : w2.cell? ⟨w.heap.size, 0, none⟩ = some (.int .i64 op) := by simp [World.cell?, hk]
    have c1 : w2.cell? ⟨w.heap.size, 1, none⟩ = some (.int .i64 a) := by simp [World.cell?, hk]
    have c2 : w2.cell? ⟨w.heap.size, 2, none⟩ = some (.int .i64 b) := by simp [World.cell?, hk]
    have c3 : w2.cell? ⟨w.heap.size, 3, none⟩ = some (.int .i64 c) := by simp [World.cell?, hk]
    have c4 : w2.cell? ⟨w.heap.size, 4, none⟩ = some (.int .i64 imm) := by simp [World.cell?, hk]
    have HK := Lib.hid hk
    have hlt : w.heap.size < w2.heap.size := (Array.getElem?_eq_some_iff.1 hk).1
    have HB := Lib.hid hb2
    clear hb hk hb2
    go_wp2_with (first | (go_at_call 12; refine (num_any _ _).mono ?_; rintro e w6 ⟨rfl, rfl⟩) | (go_at_call 14; refine (hx _ (tab_of ht HB.out)).mono ?_; rintro e w4 ⟨rfl, hb4⟩; have HB := Lib.hid (HB.out.trans (hb4.mono HB.out.size)); clear hb4) | (go_at_call 13; refine (awake_any _ (Lib.hid (tab_of ht HB.out))).mono ?_; rintro e w5 ⟨rfl, hb5⟩))
    go_ret
    exact ⟨rfl, HB.out.trans (hb5.mono HB.out.size)⟩
  · have he := fun w => enc_yes op a b c imm w hB
    have hd := fun w => dec_any (encW op a b c imm) w
    rw [dec_of op a b c imm hB] at hd
    simp only [inst] at hd
    have hne := txt_ne op a b c imm hB
    generalize txt op a b c imm = X at hx hne
    generalize encW op a b c imm = V at he hd
    cases X with
    | nil => exact absurd rfl hne
    | cons x X =>
    clear hne hB
    go_enter Tryd.func8, Tryd.ntmps8
    go_wp2_with (first | (go_at_call 10; refine (he _).mono ?_; rintro e w2 ⟨rfl, hb⟩; refine Hid.out ?_))
    refine Lib.hid ?_
    obtain ⟨hk, hb2⟩ := alloc_known hb
    have c0 : w2.cell? ⟨w.heap.size, 0, none⟩ = some (.int .i64 op) := by simp [World.cell?, hk]
    have c1 : w2.cell? ⟨w.heap.size, 1, none⟩ = some (.int .i64 a) := by simp [World.cell?, hk]
    have c2 : w2.cell? ⟨w.heap.size, 2, none⟩ = some (.int .i64 b) := by simp [World.cell?, hk]
    have c3 : w2.cell? ⟨w.heap.size, 3, none⟩ = some (.int .i64 c) := by simp [World.cell?, hk]
    have c4 : w2.cell? ⟨w.heap.size, 4, none⟩ = some (.int .i64 imm) := by simp [World.cell?, hk]
    have HK := Lib.hid hk
    have hlt : w.heap.size < w2.heap.size := (Array.getElem?_eq_some_iff.1 hk).1
    have HB := Lib.hid hb2
    clear hb hk hb2
    go_wp2_with (first | (go_at_call 12; refine (num_any _ _).mono ?_; rintro e w6 ⟨rfl, rfl⟩) | (go_at_call 18; refine (hd _).mono ?_; rintro e w3 ⟨rfl, hb3⟩; refine Hid.out ?_))
    refine Lib.hid ?_
    have hk := (hb3.block _ hlt).trans HK.out
    have c0 : w3.cell? ⟨w.heap.size, 0, none⟩ = some (.int .i64 op) := by simp [World.cell?, hk]
    have c1 : w3.cell? ⟨w.heap.size, 1, none⟩ = some (.int .i64 a) := by simp [World.cell?, hk]
    have c2 : w3.cell? ⟨w.heap.size, 2, none⟩ = some (.int .i64 b) := by simp [World.cell?, hk]
    have c3 : w3.cell? ⟨w.heap.size, 3, none⟩ = some (.int .i64 c) := by simp [World.cell?, hk]
    have c4 : w3.cell? ⟨w.heap.size, 4, none⟩ = some (.int .i64 imm) := by simp [World.cell?, hk]
    have hlt3 : w.heap.size < w3.heap.size := Nat.lt_of_lt_of_le hlt hb3.size
    have HB := Lib.hid ((HB.out.trans (hb3.mono HB.out.size)).alloc (Nat.le_of_lt hlt3) (.cells #[.int .i64 op, .int .i64 a, .int .i64 b, .int .i64 c, .int .i64 imm] 23))
    clear hb3 hk
    go_wp2_with (first | (go_at_call 12; refine (num_any _ _).mono ?_; rintro e w6 ⟨rfl, rfl⟩) | (go_at_call 14; refine (hx _ (tab_of ht HB.out)).mono ?_; rintro e w4 ⟨rfl, hb4⟩; have HB := Lib.hid (HB.out.trans (hb4.mono HB.out.size)); clear hb4) | (go_at_call 13; refine (awake_any _ (Lib.hid (tab_of ht HB.out))).mono ?_; rintro e w5 ⟨rfl, hb5⟩))
    go_ret
    exact ⟨rfl, HB.out.trans (hb5.mono HB.out.size)⟩
end Go.Proofs.YtpgooplokmemnaaDoor
