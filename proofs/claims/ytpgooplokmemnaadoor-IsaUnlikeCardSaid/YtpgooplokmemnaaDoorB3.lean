/- The walks of awake and of the laws that only call. -/
import Derived.Test.YtpgooplokmemnaaDoorB2
import Derived.Laws.StructEq
import Derived.Lib.QuietBelow
namespace Go.Proofs.YtpgooplokmemnaaDoor
open Go Go.RowKit IsaP
set_option maxHeartbeats 4000000
set_option maxRecDepth 100000

abbrev Tab (w : World) : Prop := Lib.TabIs Tryd.prog w "internal/strconv.uint64pow10" .u64 Lib.pow10Tab
theorem tab_of {w w' : World} (h : Hid (Tab w)) (hb : Below w.heap.size w w') : Tab w' := Text.tab_below rfl h.out hb
theorem awake_enc : encRes (rg 3) (im 3) (ok 3) 3 3 0 0 (-1) = .tuple #[.int .i64 229683585290862591, .int .i64 0] := by
  have h : encB (rg 3) (im 3) (ok 3) 3 0 0 (-1) = true := by decide +kernel
  have hw : word 3 3 0 0 (-1) = 229683585290862591 := by decide +kernel
  rw [encRes, if_pos h, if_pos h, encW_eq 3 3 0 0 (-1) (by omega) (by omega) (by omega) (by omega), hw]
theorem awake_txt : txt 3 3 0 0 (-1) = [99, 111, 110, 115, 116, 32, 114, 51, 32, 45, 49] := by
  have h : encB (rg 3) (im 3) (ok 3) 3 0 0 (-1) = true := by decide +kernel
  have hp : parts (nm 3) (rg 3) (im 3) 3 0 0 (-1) = [[99, 111, 110, 115, 116], 114 :: Lib.itoa 3, Lib.itoa (-1)] := by
    have e : hasB (rg 3) 1 = true ∧ hasB (rg 3) 2 = false ∧ hasB (rg 3) 4 = false ∧ im 3 = true ∧ nm 3 = [99, 111, 110, 115, 116] := by decide +kernel
    obtain ⟨e1, e2, e3, e4, e5⟩ := e
    rw [parts, e1, e2, e3, e4, e5]; rfl
  rw [txt, if_pos h, hp]
  have e3 : Lib.itoa 3 = [51] := (Lib.itoa_nonneg 3).trans (Lib.decDigits_one (by omega))
  have e1 : Lib.itoa (-1) = [45, 49] := (Lib.itoa_neg 1 (by omega)).trans (by rw [Lib.decDigits_one (by omega)]; rfl)
  rw [e3, e1]
  decide +kernel
theorem awake_any (w : World) (ht : Hid (Tab w)) : Calls Tryd.prog 13 #[] w fun e w' => e = .returned (.bool true) ∧ Below w.heap.size w w' := by
  have hen := fun w => enc_any 3 3 0 0 (-1) w
  rw [awake_enc] at hen
  have htx := fun w => text_any 3 3 0 0 (-1) w
  rw [awake_txt] at htx
  go_enter Tryd.func13, Tryd.ntmps13
  go_wp2_with (first | (go_at_call 10; refine (hen _).mono ?_; rintro e w2 ⟨rfl, hb2⟩; have HB := Lib.hid hb2; clear hb2) | (go_at_call 12; refine (num_any _ _).mono ?_; rintro e w3 ⟨rfl, rfl⟩) | (go_at_call 14; refine (htx _ (tab_of ht HB.out)).mono ?_; rintro e w4 ⟨rfl, hb4⟩))
  go_ret
  exact ⟨rfl, HB.out.trans (hb4.mono HB.out.size)⟩
theorem IsaUses_any (op : Int) (w : World) (ht : Hid (Tab w)) : Calls Tryd.prog 6 #[.int .i64 op] w fun e w' => e = .returned (.bool true) ∧ Below w.heap.size w w' := by
  go_enter Tryd.func6, Tryd.ntmps6
  go_wp2_with (first | (go_at_call 16; refine (uses_any _ _).mono ?_; rintro e w2 ⟨rfl, hb2⟩; have HB := Lib.hid hb2; clear hb2) | (go_at_call 17; refine (uses2_any _ _).mono ?_; rintro e w3 ⟨rfl, rfl⟩) | (go_at_call 13; refine (awake_any _ (Lib.hid (tab_of ht HB.out))).mono ?_; rintro e w4 ⟨rfl, hb4⟩))
  go_ret
  exact ⟨rfl, HB.out.trans (hb4.mono HB.out.size)⟩
theorem IsaEncodes_any (op a b c imm : Int) (w : World) (ht : Hid (Tab w)) : Calls Tryd.prog 3 #[.agg #[.int .i64 op, .int .i64 a, .int .i64 b, .int .i64 c, .int .i64 imm]] w fun e w' => e = .returned (.bool true) ∧ Below w.heap.size w w' := by
  obtain ⟨X, Y, hXY⟩ : ∃ X Y, encRes (rg op) (im op) (ok op) op a b c imm = .tuple #[.int .i64 X, .int .i64 Y] := ⟨_, _, rfl⟩
  have h1 := fun w => enc_any op a b c imm w
  have h2 := fun w => enc2_any op a b c imm w
  rw [hXY] at h1 h2
  clear hXY
  go_enter Tryd.func3, Tryd.ntmps3
  go_wp2_with (first | (go_at_call 10; refine (h1 _).mono ?_; rintro e w2 ⟨rfl, hb⟩; refine Hid.out ?_))
  refine Lib.hid ?_
  obtain ⟨hk, hb2⟩ := alloc_known hb
  have c0 : w2.cell? ⟨w.heap.size, 0, none⟩ = some (.int .i64 op) := by simp [World.cell?, hk]
  have c1 : w2.cell? ⟨w.heap.size, 1, none⟩ = some (.int .i64 a) := by simp [World.cell?, hk]
  have c2 : w2.cell? ⟨w.heap.size, 2, none⟩ = some (.int .i64 b) := by simp [World.cell?, hk]
  have c3 : w2.cell? ⟨w.heap.size, 3, none⟩ = some (.int .i64 c) := by simp [World.cell?, hk]
  have c4 : w2.cell? ⟨w.heap.size, 4, none⟩ = some (.int .i64 imm) := by simp [World.cell?, hk]
  have HB := Lib.hid hb2
  clear hb hk hb2
  go_wp2_with (first | (go_at_call 11; refine (h2 _).mono ?_; rintro e w3 ⟨rfl, hb3⟩; have HB := Lib.hid (HB.out.trans (hb3.mono HB.out.size)); clear hb3) | (go_at_call 12; refine (num_any _ _).mono ?_; rintro e w4 ⟨rfl, rfl⟩) | (go_at_call 13; refine (awake_any _ (Lib.hid (tab_of ht HB.out))).mono ?_; rintro e w5 ⟨rfl, hb5⟩))
  go_ret
  exact ⟨rfl, HB.out.trans (hb5.mono HB.out.size)⟩
theorem IsaDecodes_any (v : Int) (h0 : -9223372036854775808 ≤ v) (h1 : v ≤ 9223372036854775807) (w : World) (ht : Hid (Tab w)) : Calls Tryd.prog 7 #[.int .i64 v] w fun e w' => e = .returned (.bool true) ∧ Below w.heap.size w w' := by
  obtain ⟨o, a, b, c, i, E, hE⟩ : ∃ o a b c i E, decRes v = .tuple #[.agg #[.int .i64 o, .int .i64 a, .int .i64 b, .int .i64 c, .int .i64 i], .int .i64 E] := by
    unfold decRes; split <;> exact ⟨_, _, _, _, _, _, rfl⟩
  have h1 := fun w => dec_any v w
  have h2 := fun w => dec2_any v (by omega) (by omega) w
  rw [hE] at h1 h2
  clear hE
  go_enter Tryd.func7, Tryd.ntmps7
  go_wp2_with (first | (go_at_call 18; refine (h1 _).mono ?_; rintro e w2 ⟨rfl, hb⟩; have HB := Lib.hid hb; clear hb) | (go_at_call 19; refine (h2 _).mono ?_; rintro e w3 ⟨rfl, hb3⟩; refine Hid.out ?_))
  refine Lib.hid ?_
  obtain ⟨hk, hb4⟩ := alloc_known hb3
  have HB := Lib.hid (HB.out.trans (hb4.mono HB.out.size))
  have hlt : w2.heap.size < w3.heap.size := (Array.getElem?_eq_some_iff.1 hk).1
  have c0 : w3.cell? ⟨w2.heap.size, 0, none⟩ = some (.int .i64 o) := by simp [World.cell?, hk]
  have c1 : w3.cell? ⟨w2.heap.size, 1, none⟩ = some (.int .i64 a) := by simp [World.cell?, hk]
  have c2 : w3.cell? ⟨w2.heap.size, 2, none⟩ = some (.int .i64 b) := by simp [World.cell?, hk]
  have c3 : w3.cell? ⟨w2.heap.size, 3, none⟩ = some (.int .i64 c) := by simp [World.cell?, hk]
  have c4 : w3.cell? ⟨w2.heap.size, 4, none⟩ = some (.int .i64 i) := by simp [World.cell?, hk]
  have f0 : ∀ i, w3.frozen? ⟨w2.heap.size, i, none⟩ = false := fun i => by simp [World.frozen?, hk]
  clear hb3 hk hb4
  go_wp2_with (first | (go_at_call 12; refine (num_any _ _).mono ?_; rintro e w4 ⟨rfl, rfl⟩) | (go_at_call 13; refine (awake_any _ (Lib.hid (tab_of ht (HB.out.alloc HB.out.size _)))).mono ?_; rintro e w5 ⟨rfl, hb5⟩))
  go_ret
  exact ⟨rfl, (HB.out.alloc HB.out.size _).trans (hb5.mono (HB.out.alloc HB.out.size _).size)⟩
end Go.Proofs.YtpgooplokmemnaaDoor
