/- Fields are put in order: a row is turned. -/
import Derived.Test.YtcelpmojhjnggaaV3
import Derived.Deep.Cut
import Derived.Deep.DeepCutAuto
import Derived.Deep.RegionHeld3
import Derived.BigRegion
namespace Go.Proofs.Ytcelpmojhjnggaa
open Go Go.RowKit Go.Sort Go.Deep KindsP
set_option maxHeartbeats 4000000
set_option maxRecDepth 100000

theorem rot80_any (d : Nat) (w0 w : World) (g n c a m b : Nat) (P U V Q : List Fld) (hP : P.length = a) (hU : m = a + U.length) (hV : b = m + V.length) (hU0 : 0 < U.length) (hV0 : 0 < V.length) (hnm : n ≤ 1000000000) (hn : b ≤ n) (hr : FRow w0 d w g (P ++ U ++ V ++ Q)) :
    Calls Try.prog 80 #[.slice (some ⟨g, 0, none⟩) n c, .int .i64 a, .int .i64 m, .int .i64 b, fCmp] w (TurnPost w0 d w g (P ++ V ++ U ++ Q)) := by
  have HR := Lib.hid hr
  have HP := Lib.hid hP
  have HU := Lib.hid hU
  have HV := Lib.hid hV
  obtain ⟨ul, hul⟩ : ∃ ul, U.length = ul := ⟨_, rfl⟩
  obtain ⟨vl, hvl⟩ : ∃ vl, V.length = vl := ⟨_, rfl⟩
  have HUL := Lib.hid hul
  have HVL := Lib.hid hvl
  have ham : a ≤ m := by omega
  have hmb : m ≤ b := by omega
  have hw1 : IntKind.i64.wrap ((m : Int) - (a : Int)) = (ul : Int) := by rw [IntWalk.i64_left, IntWalk.wrap64_in _ (by omega)]; omega
  have hw2 : IntKind.i64.wrap ((b : Int) - (m : Int)) = (vl : Int) := by rw [IntWalk.i64_left, IntWalk.wrap64_in _ (by omega)]; omega
  have HU0 : Hid (0 < ul) := Lib.hid (by omega)
  have HV0 : Hid (0 < vl) := Lib.hid (by omega)
  have HUM : Hid (a + 0 + ul = m) := Lib.hid (by omega)
  have HVM : Hid (m + vl ≤ b) := Lib.hid (by omega)
  clear hr hP hU hV hul hvl hU0 hV0
  go_enter Try.func80, Try.ntmps80
  go_wp2_with fail
  go_loopw [10, 11] (fun iv jv wr => ∃ (i j : Nat) (A U' V' B : List Fld), Hid (U'.length = i) ∧ Hid (V'.length = j) ∧ 0 < i ∧ 0 < j ∧ Hid (a + A.length + i = m) ∧ m + j ≤ b ∧ Hid (A ++ V' ++ U' ++ B = V ++ U) ∧ iv = .int .i64 i ∧ jv = .int .i64 j ∧ Aside g g w wr ∧ FRow w0 d wr g (P ++ A ++ U' ++ V' ++ (B ++ Q))) (fun iv jv _ => (intOf iv).toNat + (intOf jv).toNat)
  case atStart => exact ⟨ul, vl, [], U, V, [], HUL, HVL, HU0.out, HV0.out, HUM, HVM.out, Lib.hid (by simp), rfl, rfl, Aside.refl _ _ _, by simpa using HR.out⟩
  case round =>
    obtain ⟨i, j, A, U', V', B, HLU, HLV, hi0, hj0, HAM, hjb, HG, rfl, rfl, has, hrow⟩ := hrel
    have HAS := Lib.hid has
    have HROW := Lib.hid hrow
    have him : i ≤ m := by have := HAM.out; omega
    obtain ⟨p, hp⟩ : ∃ p, p = m - i := ⟨_, rfl⟩
    have hwp : IntKind.i64.wrap ((m : Int) - (i : Int)) = (p : Int) := by rw [IntWalk.i64_left, IntWalk.wrap64_in _ (by omega)]; omega
    have HPA := Lib.hid (show (P ++ A).length = p by rw [List.length_append, HP.out]; have := HAM.out; omega)
    have HPM := Lib.hid (show p + i = m by omega)
    clear has hrow hp
    by_cases hgt : j < i
    · have hne : ((i : Int) != (j : Int)) = true := by simp; omega
      obtain ⟨k, hk⟩ : ∃ k, k = i - j := ⟨_, rfl⟩
      have hwk : IntKind.i64.wrap ((i : Int) - (j : Int)) = (k : Int) := by rw [IntWalk.i64_left, IntWalk.wrap64_in _ (by omega)]; omega
      have hki : k + j = i := by omega
      have HKI := Lib.hid hki
      have hk0 : 0 < k := by omega
      have HC := Lib.hid (swap81_any d w0 wr g n c p m j (P ++ A) (U'.take j) (U'.drop j) V' (B ++ Q) HPA.out (by rw [List.length_take, HLU.out]; omega) HLV.out (by rw [List.length_drop, HLU.out]; have := HPM.out; omega) hnm (by omega) (by have := HROW.out; rw [show P ++ A ++ U'.take j ++ U'.drop j ++ V' ++ (B ++ Q) = P ++ A ++ (U'.take j ++ U'.drop j) ++ V' ++ (B ++ Q) by simp, List.take_append_drop]; exact this))
      clear hk hki
      go_wp2_with (first | (go_at_call 81; refine HC.out.mono ?_; rintro e w2 ⟨⟨u, rfl⟩, hr2, ha2⟩; have HR2 := Lib.hid hr2; have HA2 := Lib.hid ha2; clear hr2 ha2))
      refine ⟨⟨k, j, A ++ V', U'.drop j, U'.take j, B, Lib.hid (by rw [List.length_drop, HLU.out]; have := HKI.out; omega), Lib.hid (by rw [List.length_take, HLU.out]; omega), hk0, hj0, Lib.hid (by rw [List.length_append, HLV.out]; have := HKI.out; have := HAM.out; omega), hjb, Lib.hid ?_, rfl, rfl, HAS.out.trans HA2.out, ?_⟩, by simp [intOf]; have := HKI.out; omega⟩
      · rw [← HG.out, show A ++ V' ++ U'.take j ++ U'.drop j ++ B = A ++ V' ++ (U'.take j ++ U'.drop j) ++ B by simp, List.take_append_drop]
      · have := HR2.out
        simpa using this
    · by_cases hlt : i < j
      · have hne : ((i : Int) != (j : Int)) = true := by simp; omega
        obtain ⟨k, hk⟩ : ∃ k, k = j - i := ⟨_, rfl⟩
        have hwk : IntKind.i64.wrap ((j : Int) - (i : Int)) = (k : Int) := by rw [IntWalk.i64_left, IntWalk.wrap64_in _ (by omega)]; omega
        obtain ⟨q, hq⟩ : ∃ q, q = m + j := ⟨_, rfl⟩
        obtain ⟨r, hr⟩ : ∃ r, r = m + k := ⟨_, rfl⟩
        have hwq : IntKind.i64.wrap ((m : Int) + (j : Int)) = (q : Int) := by rw [IntWalk.i64_left, IntWalk.wrap64_in _ (by omega)]; omega
        have hwr : IntKind.i64.wrap ((q : Int) - (i : Int)) = (r : Int) := by rw [IntWalk.i64_left, IntWalk.wrap64_in _ (by omega)]; omega
        have HKI := Lib.hid (show k + i = j by omega)
        have hk0 : 0 < k := by omega
        have HC := Lib.hid (swap81_any d w0 wr g n c p r i (P ++ A) U' (V'.take k) (V'.drop k) (B ++ Q) HPA.out HLU.out (by rw [List.length_drop, HLV.out]; omega) (by rw [List.length_take, HLV.out]; have := HPM.out; omega) hnm (by omega) (by have := HROW.out; rw [show P ++ A ++ U' ++ V'.take k ++ V'.drop k ++ (B ++ Q) = P ++ A ++ U' ++ (V'.take k ++ V'.drop k) ++ (B ++ Q) by simp, List.take_append_drop]; exact this))
        clear hk hq hr
        go_wp2_with (first | (go_at_call 81; refine HC.out.mono ?_; rintro e w2 ⟨⟨u, rfl⟩, hr2, ha2⟩; have HR2 := Lib.hid hr2; have HA2 := Lib.hid ha2; clear hr2 ha2))
        refine ⟨⟨i, k, A, V'.drop k, V'.take k, U' ++ B, Lib.hid (by rw [List.length_drop, HLV.out]; have := HKI.out; omega), Lib.hid (by rw [List.length_take, HLV.out]; have := HKI.out; omega), hi0, hk0, HAM, by have := HKI.out; omega, Lib.hid ?_, rfl, rfl, HAS.out.trans HA2.out, ?_⟩, by simp [intOf]; have := HKI.out; omega⟩
        · rw [← HG.out, show A ++ V'.take k ++ V'.drop k ++ (U' ++ B) = A ++ (V'.take k ++ V'.drop k) ++ U' ++ B by simp, List.take_append_drop]
        · have := HR2.out
          simpa using this
      · obtain rfl : i = j := by omega
        have hne : ((i : Int) != (i : Int)) = false := by simp
        have HC := Lib.hid (swap81_any d w0 wr g n c p m i (P ++ A) U' [] V' (B ++ Q) HPA.out HLU.out HLV.out (by have := HPM.out; simp; omega) hnm (by omega) (by simpa using HROW.out))
        go_wp2_with (first | (go_at_call 81; refine HC.out.mono ?_; rintro e w2 ⟨⟨u, rfl⟩, hr2, ha2⟩; have HR2 := Lib.hid hr2; have HA2 := Lib.hid ha2; clear hr2 ha2))
        go_end0
        refine ⟨⟨_, rfl⟩, ?_, HAS.out.trans HA2.out⟩
        have := HR2.out
        rw [show P ++ V ++ U ++ Q = P ++ (V ++ U) ++ Q by simp, ← HG.out]
        simpa using this
end Go.Proofs.Ytcelpmojhjnggaa
