/- The walk of LexNumbers. -/
import Derived.Test.YthmhbhlkbihdbaaD1
import Derived.OpenShut
namespace Go.Proofs.Ythmhbhlkbihdbaa
open Go.RowKit LexP

theorem letter_byte (x : Int) (_h0 : 0 ≤ x) (_h1 : x < 256) : letterI (UInt8.ofNat (97 + x % 26).toNat).toNat = true := by
  have : (UInt8.ofNat (97 + x % 26).toNat).toNat = (97 + x % 26).toNat := by
    rw [UInt8.toNat_ofNat']
    omega
  rw [this]
  simp [letterI]
  omega

theorem ba_snoc (x : UInt8) (l : List UInt8) : ((ByteArray.mk l.toArray) ++ (ByteArray.mk #[x])).data.toList = l ++ [x] := by
  simp
theorem ba_front (x : UInt8) (l : List UInt8) : ((ByteArray.mk #[x]) ++ (ByteArray.mk l.toArray)).data.toList = x :: l := by
  simp

set_option maxRecDepth 100000 in
set_option maxHeartbeats 1000000 in
theorem LexNumbers_any (n : Int) (x : Int) (w : World) (hn : (Lit.int .i64 n).wf = true) (hx : (Lit.int .u8 x).wf = true) : Calls Try.prog 6 #[.int .i64 n, .int .u8 x] w fun e w' => e = .returned (.bool true) ∧ Below w.heap.size w w' := by
  have hn1 : n ≤ 9223372036854775807 := by have := bounds_i64 hn; omega
  have hx0 : 0 ≤ x ∧ x < 256 := by have := bounds_u8 hx; omega
  obtain ⟨hx0, hx1⟩ := hx0
  clear hn hx
  by_cases hneg : n < 0
  · go_enter Try.func6, Try.ntmps6
    go_wp2_with (go_at_call 13; refine (awake_any _).mono ?_; rintro e w2 ⟨rfl, hb⟩)
    go_ret
    exact ⟨rfl, hb⟩
  obtain ⟨m, rfl⟩ := Int.eq_ofNat_of_zero_le (show 0 ≤ n by omega)
  have hm : m ≤ 9223372036854775807 := by omega
  have L1 := Lib.hid (lex_number m hm)
  have L2 := Lib.hid (lex_nought m hm)
  have L3 := Lib.hid (fun c hc => lex_letter m hm c hc)
  have hl := numL_len m
  have HL := Lib.hid (letter_byte x hx0 hx1)
  go_enter Try.func6, Try.ntmps6
  go_wp2_with fail
  refine (Number_any m w hm).mono ?_
  rintro e w1 ⟨rfl, hb1⟩
  generalize numL m = T at *
  have HB1 := Lib.hid hb1
  clear hb1
  go_wp2_with fail
  refine (Lex_any _ w1).mono ?_
  intro e w2 hq
  rw [show lexTop (ByteArray.mk T.toArray).data.toList = lexTop' T from rfl, L1.out] at hq
  obtain ⟨hb2, v, rfl, hown⟩ := hq
  obtain ⟨g, cap, hg, rfl, hc⟩ := TokRow.of_own hown (by simp)
  have HB2 := Lib.hid (HB1.out.trans (hb2.mono HB1.out.size))
  have HO := Lib.hid hown
  have hgl : g < w2.heap.size := by
    obtain ⟨g', cap', hv, _, hlt⟩ := hown.form (by simp)
    simp at hv
    rw [hv.1]; exact hlt
  have HC := Lib.hid hc
  clear hb2 hown hc
  simp only [List.length_cons, List.length_nil, Nat.zero_add, Nat.reduceAdd]
  go_wp2_with fail
  refine (Lex_any _ w2).mono ?_
  intro e w3 hq
  rw [show lexTop (ByteArray.mk #[48] ++ ByteArray.mk T.toArray).data.toList = lexTop' (48 :: T) by rw [ba_front]; rfl, L2.out] at hq
  obtain ⟨hb3, rfl⟩ := hq
  have HB3 := Lib.hid hb3
  have hcv := fun X => one_byte w3 X
  clear hb3
  go_wp2_with fail
  refine (Lex_any _ _).mono ?_
  intro e w4 hq
  rw [show lexTop (ByteArray.mk T.toArray ++ ByteArray.mk #[UInt8.ofNat (97 + x % 26).toNat]).data.toList = lexTop' (T ++ [UInt8.ofNat (97 + x % 26).toNat]) by rw [ba_snoc]; rfl, L3.out _ HL.out] at hq
  obtain ⟨hb4, rfl⟩ := hq
  have hb24 : Below w2.heap.size w2 w4 := (HB3.out.alloc HB3.out.size _).trans (hb4.mono (by have := HB3.out.size; simp; omega))
  have HB4 := Lib.hid (HB2.out.trans (hb24.mono HB2.out.size))
  have c0 := (hb24.cell (p := ⟨g, 0, none⟩) hgl).trans (HC.out 0 _ rfl)
  have c1 := (hb24.cell (p := ⟨g, 1, none⟩) hgl).trans (HC.out 1 _ rfl)
  have c2 := (hb24.cell (p := ⟨g, 2, none⟩) hgl).trans (HC.out 2 _ rfl)
  have c3 := (hb24.cell (p := ⟨g, 3, none⟩) hgl).trans (HC.out 3 _ rfl)
  clear hb24 hb4 hcv
  go_wp2_with (first | go_quiet (fail) | (go_at_call 12; refine (num_any _ _).mono ?_; rintro e w2 ⟨rfl, rfl⟩))
  go_ret
  exact ⟨rfl, HB4.out⟩
end Go.Proofs.Ythmhbhlkbihdbaa
