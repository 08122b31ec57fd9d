/- Fields are put in order: a row is turned. -/
import Derived.Test.YtcelpmojhjnggaaI18
import Derived.Deep.Cut
import Derived.Deep.DeepCutAuto
import Derived.Deep.RegionHeld3
import Derived.BigRegion
namespace Go.Proofs.Ytcelpmojhjnggaa
open Go Go.RowKit Go.Sort Go.Deep KindsP
set_option maxHeartbeats 4000000
set_option maxRecDepth 100000

theorem rot80_any (d : Nat) (w0 w : World) (g n c a m b : Nat) (P U V Q : List Fld) (hP : P.length = a) (hU : m = a + U.length) (hV : b = m + V.length) (hU0 : 0 < U.length) (hV0 : 0 < V.length) (hnm : n ≤ 1000000000) (hn : b ≤ n) (hr : FRow w0 d w g (P ++ U ++ V ++ Q)) :
    Calls Try.prog 80 #[.slice (some ⟨g, 0, none⟩) n c, .int .i64 a, .int .i64 m, .int .i64 b, fCmp] w (TurnPost w0 d w g (P ++ V ++ U ++ Q)) := by
  have HR := Lib.hid hr
  have HP := Lib.hid hP
  have HU := Lib.hid hU
  have HV := Lib.hid hV
  obtain ⟨ul, hul⟩ : ∃ ul, U.length = ul := ⟨_, rfl⟩
  obtain ⟨vl, hvl⟩ : ∃ vl, V.length = vl := ⟨_, rfl⟩
  have HUL := Lib.hid hul
  have HVL := Lib.hid hvl
  have ham : a ≤ m := by omega
  have hmb : m ≤ b := by omega
  have hw1 : IntKind.i64.wrap ((m : Int) - (a : Int)) = (ul : Int) := by rw [IntWalk.i64_left, IntWalk.wrap64_in _ (by omega)]; omega
  have hw2 : IntKind.i64.wrap ((b : Int) - (m : Int)) = (vl : Int) := by rw [IntWalk.i64_left, IntWalk.wrap64_in _ (by omega)]; omega
  have HU0 : Hid (0 < ul) := Lib.hid (by omega)
  have HV0 : Hid (0 < vl) := Lib.hid (by omega)
  have HUM : Hid (a + 0 + ul = m) := Lib.hid (by omega)
  have HVM : Hid (m + vl ≤ b) := Lib.hid (by omega)
  clear hr hP hU hV hul hvl hU0 hV0
  go_enter Try.func80, Try.ntmps80
  go_wp2_with fail
  go_loopw [10, 11] (fun iv jv wr => ∃ (i j : Nat) (A U' V' B : List Fld), Hid (U'.length = i) ∧ Hid (V'.length = j) ∧ 0 < i ∧ 0 < j ∧ Hid (a + A.length + i = m) ∧ m + j ≤ b ∧ Hid (A ++ V' ++ U' ++ B = V ++ U) ∧ iv = .int .i64 i ∧ jv = .int .i64 j ∧ Aside g g w wr ∧ FRow w0 d wr g (P ++ A ++ U' ++ V' ++ (B ++ Q))) (fun iv jv _ => (intOf iv).toNat + (intOf jv).toNat)
  case atStart => exact ⟨ul, vl, [], U, V, [], HUL, HVL, HU0.out, HV0.out, HUM, HVM.out, Lib.hid (by simp), rfl, rfl, Aside.refl _ _ _, by simpa using HR.out⟩
  case round =>
    obtain ⟨i, j, A, U', V', B, HLU, HLV, hi0, hj0, HAM, hjb, HG, rfl, rfl, has, hrow⟩ := hrel
    have HAS := Lib.hid has
    have HROW := Lib.hid hrow
    have him : i ≤ m := by have := HAM.out; omega
    obtain ⟨p, hp⟩ : ∃ p, p = m - i := ⟨_, rfl⟩
    have hwp : IntKind.i64.wrap ((m : Int) - (i : Int)) = (p : Int) := by rw [IntWalk.i64_left, IntWalk.wrap64_in _ (by omega)]; omega
    have HPA := Lib.hid (show (P ++ A).length = p by rw [List.length_append, HP.out]; have := HAM.out; omega)
    have HPM := Lib.hid (show p + i = m by omega)
    clear has hrow hp
    by_cases hgt : j < i
    · have hne : ((i : Int) != (j : Int)) = true := by simp; omega
      obtain ⟨k, hk⟩ : ∃ k, k = i - j := ⟨_, rfl⟩
      have hwk : IntKind.i64.wrap ((i : Int) - (j : Int)) = (k : Int) := by rw [IntWalk.i64_left, IntWalk.wrap64_in _ (by omega)]; omega
      have hki : k + j = i := by omega
      have HKI := Lib.hid hki
      have hk0 : 0 < k := by omega
      have HC := Lib.hid (swap81_any d w0 wr g n c p m j (P ++ A) (U'.take j) (U'.drop j) V' (B ++ Q) HPA.out (by rw [List.length_take, HLU.out]; omega) HLV.out (by rw [List.length_drop, HLU.out]; have := HPM.out; omega) hnm (by omega) (by have := HROW.out; rw [show P ++ A ++ U'.take j ++ U'.drop j ++ V' ++ (B ++ Q) = P ++ A ++ (U'.take j ++ U'.drop j) ++ V' ++ (B ++ Q) by simp, List.take_append_drop]; exact this))
      clear hk hki
      go_wp2_with (first | (go_at_call 81; refine HC.out.mono ?_; rintro e w2 ⟨⟨u, rfl⟩, hr2, ha2⟩; have HR2 := Lib.hid hr2; have HA2 := Lib.hid ha2; clear hr2 ha2))
      refine ⟨⟨k, j, A ++ V', U'.drop j, U'.take j, B, Lib.hid (by rw [List.length_drop, HLU.out]; have := HKI.out; omega), Lib.hid (by rw [List.length_take, HLU.out]; omega), hk0, hj0, Lib.hid (by rw [List.length_append, HLV.out]; have := HKI.out; have := HAM.out; omega), hjb, Lib.hid ?_, rfl, rfl, HAS.out.trans HA2.out, ?_⟩, by simp [intOf]; have := HKI.out; omega⟩
      · rw [← HG.out, show A ++ V' ++ U'.take j ++ U'.drop j ++ B = A ++ V' ++ (U'.take j ++ U'.drop j) ++ B by simp, List.take_append_drop]
      · have := HR2.out
        simpa using this
    · by_cases hlt : i < j
      · have hne : ((i : Int) != (j : Int)) = true := by simp; omega
        obtain ⟨k, hk⟩ : ∃ k, k = j - i := ⟨_, rfl⟩
        have hwk : IntKind.i64.wrap ((j : Int) - (i : Int)) = (k : Int) := by rw [IntWalk.i64_left, IntWalk.wrap64_in _ (by omega)]; omega
        obtain ⟨q, hq⟩ : ∃ q, q = m + j := ⟨_, rfl⟩
        obtain ⟨r, hr⟩ : ∃ r, r = m + k := ⟨_, rfl⟩
        have hwq : IntKind.i64.wrap ((m : Int) + (j : Int)) = (q : Int) := by rw [IntWalk.i64_left, IntWalk.wrap64_in _ (by omega)]; omega
        have hwr : IntKind.i64.wrap ((q : Int) - (i : Int)) = (r : Int) := by rw [IntWalk.i64_left, IntWalk.wrap64_in _ (by omega)]; omega
        have HKI := Lib.hid (show k + i = j by omega)
        have hk0 : 0 < k := by omega
        have HC := Lib.hid (swap81_any d w0 wr g n c p r i (P ++ A) U' (V'.take k) (V'.drop k) (B ++ Q) HPA.out HLU.out (by rw [List.length_drop, HLV.out]; omega) (by rw [List.length_take, HLV.out]; have := HPM.out; omega) hnm (by omega) (by have := HROW.out; rw [show P ++ A ++ U' ++ V'.take k ++ V'.drop k ++ (B ++ Q) = P ++ A ++ U' ++ (V'.take k ++ V'.drop k) ++ (B ++ Q) by simp, List.take_append_drop]; exact this))
        clear hk hq hr
        go_wp2_with (first | (go_at_call 81; refine HC.out.mono ?_; rintro e w2 ⟨⟨u, rfl⟩, hr2, ha2⟩; have HR2 := Lib.hid hr2; have HA2 := Lib.hid ha2; clear hr2 ha2))
        refine ⟨⟨i, k, A, V'.drop k, V'.take k, U' ++ B, Lib.hid (by rw [List.length_drop, HLV.out]; have := HKI.out; omega), Lib.hid (by rw [List.length_take, HLV.out]; have := HKI.out; omega), hi0, hk0, HAM, by have := HKI.out; omega, Lib.hid ?_, rfl, rfl, HAS.out.trans HA2.out, ?_⟩, by simp [intOf]; have := HKI.out; omega⟩
        · rw [← HG.out, show A ++ V'.take k ++ V'.drop k ++ (U' ++ B) = A ++ (V'.take k ++ V'.drop k) ++ U' ++ B by simp, List.take_append_drop]
        · have := HR2.out
          simpa using this
      · obtain rfl : i = j := by omega
        have hne : ((i : Int) != (i : Int)) = false := by simp
        have HC := Lib.hid (swap81_any d w0 wr g n c p m i (P ++ A) U' [] V' (B ++ Q) HPA.out HLU.out HLV.out (by have := HPM.out; simp; omega) hnm (by omega) (by simpa using HROW.out))
        go_wp2_with (first | (go_at_call 81; refine HC.out.mono ?_; rintro e w2 ⟨⟨u, rfl⟩, hr2, ha2⟩; have HR2 := Lib.hid hr2; have HA2 := Lib.hid ha2; clear hr2 ha2))
        go_end0
        refine ⟨⟨_, rfl⟩, ?_, HAS.out.trans HA2.out⟩
        have := HR2.out
        rw [show P ++ V ++ U ++ Q = P ++ (V ++ U) ++ Q by simp, ← HG.out]
        simpa using this
end Go.Proofs.Ytcelpmojhjnggaa

/- Fields are put in order: one element and a row are made one. -/
namespace Go.Proofs.Ytcelpmojhjnggaa
open Go Go.RowKit Go.Sort Go.Deep KindsP
set_option maxHeartbeats 4000000
set_option maxRecDepth 100000

theorem around {B : List Fld} (hs : Srt ltF B) (h : Nat) (y : Fld) (hy : B[h]? = some y) : (∀ z ∈ B.take (h + 1), z = y ∨ ltF y z = false) ∧ (∀ z ∈ B.drop h, z = y ∨ ltF z y = false) := by
  obtain ⟨hl, rfl⟩ := List.getElem?_eq_some_iff.1 hy
  obtain ⟨dX, tX⟩ := list_at B h B[h] (List.getElem?_eq_getElem hl)
  have hp : Srt ltF (B.take h ++ B[h] :: B.drop (h + 1)) := by rw [← dX, List.take_append_drop]; exact hs
  obtain ⟨h1, h2, h3⟩ := List.pairwise_append.1 hp
  obtain ⟨h4, h5⟩ := List.pairwise_cons.1 h2
  refine ⟨fun z hz => ?_, fun z hz => ?_⟩
  · rw [tX] at hz
    rcases List.mem_append.1 hz with hz | hz
    · exact .inr (h3 z hz _ (List.mem_cons_self ..))
    · exact .inl (List.mem_singleton.1 hz)
  · rw [dX] at hz
    rcases List.mem_cons.1 hz with hz | hz
    · exact .inl hz
    · exact .inr (h4 z hz)
theorem lt_take {B : List Fld} (hs : Srt ltF B) (h : Nat) (x y : Fld) (hy : B[h]? = some y) (hxy : ltF y x = true) : ∀ z ∈ B.take (h + 1), ltF z x = true := by
  intro z hz
  rcases (around hs h y hy).1 z hz with rfl | h1
  · exact hxy
  · rcases weakF.co y z x hxy with h2 | h2
    · rw [h1] at h2; cases h2
    · exact h2
theorem ge_drop {B : List Fld} (hs : Srt ltF B) (h : Nat) (x y : Fld) (hy : B[h]? = some y) (hxy : ltF y x = false) : ∀ z ∈ B.drop h, ltF z x = false := by
  intro z hz
  rcases (around hs h y hy).2 z hz with rfl | h1
  · exact hxy
  · cases h2 : ltF z x with
    | false => rfl
    | true =>
      rcases weakF.co z y x h2 with h3 | h3
      · rw [h1] at h3; cases h3
      · rw [hxy] at h3; cases h3
theorem le_take {A : List Fld} (hs : Srt ltF A) (h : Nat) (x y : Fld) (hx : A[h]? = some x) (hyx : ltF y x = false) : ∀ z ∈ A.take (h + 1), ltF y z = false := by
  intro z hz
  rcases (around hs h x hx).1 z hz with rfl | h1
  · exact hyx
  · cases h2 : ltF y z with
    | false => rfl
    | true =>
      rcases weakF.co y x z h2 with h3 | h3
      · rw [hyx] at h3; cases h3
      · rw [h1] at h3; cases h3
theorem gt_drop {A : List Fld} (hs : Srt ltF A) (h : Nat) (x y : Fld) (hx : A[h]? = some x) (hyx : ltF y x = true) : ∀ z ∈ A.drop h, ltF y z = true := by
  intro z hz
  rcases (around hs h x hx).2 z hz with rfl | h1
  · exact hyx
  · rcases weakF.co y z x hyx with h2 | h2
    · exact h2
    · rw [h1] at h2; cases h2
theorem one77 (d : Nat) (w0 w : World) (g n c a m b : Nat) (P B Q : List Fld) (x : Fld) (hP : P.length = a) (hm : m = a + 1) (hb : b = m + B.length) (hsB : Srt ltF B) (hnm : n ≤ 1000000000) (hn : b ≤ n) (hr : FRow w0 d w g (P ++ x :: B ++ Q)) :
    Calls Try.prog 77 #[.slice (some ⟨g, 0, none⟩) n c, .int .i64 a, .int .i64 m, .int .i64 b, fCmp] w (TurnPost w0 d w g (P ++ mrg ltF [x] B ++ Q)) := by
  have HR := Lib.hid hr
  have HP := Lib.hid hP
  have HM := Lib.hid hm
  have HBL := Lib.hid hb
  have HSB := Lib.hid hsB
  have hmb : m ≤ b := by omega
  have ham : a < m := by omega
  have hw1 : IntKind.i64.wrap ((m : Int) - (a : Int)) = 1 := by rw [IntWalk.i64_left, IntWalk.wrap64_in _ (by omega)]; omega
  clear hr hP hm hb hsB
  go_enter Try.func77, Try.ntmps77
  go_wp2_with fail
  go_loopw [10, 11] (fun iv jv wr => ∃ (i j s t : Nat), Hid (i = m + s) ∧ Hid (j = m + t) ∧ i ≤ j ∧ j ≤ b ∧ m ≤ i ∧ Hid (∀ y ∈ B.take s, ltF y x = true) ∧ Hid (∀ y ∈ B.drop t, ltF y x = false) ∧ iv = .int .i64 i ∧ jv = .int .i64 j ∧ Aside g g w wr ∧ FRow w0 d wr g (P ++ x :: B ++ Q)) (fun iv jv _ => (intOf jv).toNat - (intOf iv).toNat)
  case atStart => exact ⟨m, b, 0, B.length, Lib.hid rfl, HBL, hmb, Nat.le_refl _, Nat.le_refl _, Lib.hid (by simp), Lib.hid (by simp), rfl, rfl, Aside.refl _ _ _, HR.out⟩
  case round =>
    obtain ⟨i, j, s, t, HI, HJ, hij, hjb, hmi, H1, H2, rfl, rfl, has, hrow⟩ := hrel
    have HAS := Lib.hid has
    by_cases hlt : i < j
    · obtain ⟨h, hh⟩ : ∃ h : Nat, ((i : Int) + (j : Int)) / 2 = (h : Int) := ⟨(i + j) / 2, by omega⟩
      have hih : i ≤ h := by omega
      have hhj : h < j := by omega
      obtain ⟨u, hu⟩ : ∃ u, h = m + u := ⟨h - m, by omega⟩
      have HU := Lib.hid hu
      obtain ⟨y, hy⟩ : ∃ y, B[u]? = some y := ⟨_, List.getElem?_eq_getElem (by have := HBL.out; omega)⟩
      have HY := Lib.hid hy
      obtain ⟨dB, tB⟩ := list_at B u y hy
      obtain ⟨x0, x1, x2, x3, x4, x5, x6, x7, x8, ⟨f0, f1, f2, f3, f4, f5⟩, hlx⟩ := hrow.cell a x (by rw [← HP.out, show P ++ x :: B ++ Q = P ++ x :: (B ++ Q) by simp]; exact get_mid _ _ _)
      obtain ⟨y0, y1, y2, y3, y4, y5, y6, y7, y8, ⟨g0, g1, g2, g3, g4, g5⟩, hly⟩ := hrow.cell h y (by
        have e : P ++ x :: B ++ Q = (P ++ x :: B.take u) ++ y :: (B.drop (u + 1) ++ Q) := by
          have h1 : B = B.take u ++ y :: B.drop (u + 1) := by rw [← dB, List.take_append_drop]
          conv => lhs; rw [h1]
          simp
        have l : (P ++ x :: B.take u).length = h := by simp; rw [HP.out]; have := HBL.out; have := HM.out; omega
        rw [e, ← l]; exact get_mid _ _ _)
      have HROW := Lib.hid hrow
      have HSW := Lib.hid (fun (W' : World) (h' : Below wr.heap.size wr W') => (show W'.cell? ⟨g, h * 6, none⟩ = some (.string y.name) ∧ W'.cell? ⟨g, h * 6 + 1, none⟩ = some (.int .i64 y0) ∧ W'.cell? ⟨g, h * 6 + 2, none⟩ = some (.string y1) ∧ W'.cell? ⟨g, h * 6 + 3, none⟩ = some (.string y2) ∧ W'.cell? ⟨g, h * 6 + 4, none⟩ = some (.slice y3 y4 y5) ∧ W'.cell? ⟨g, h * 6 + 5, none⟩ = some (.slice y6 y7 y8) ∧ W'.cell? ⟨g, a * 6, none⟩ = some (.string x.name) ∧ W'.cell? ⟨g, a * 6 + 1, none⟩ = some (.int .i64 x0) ∧ W'.cell? ⟨g, a * 6 + 2, none⟩ = some (.string x1) ∧ W'.cell? ⟨g, a * 6 + 3, none⟩ = some (.string x2) ∧ W'.cell? ⟨g, a * 6 + 4, none⟩ = some (.slice x3 x4 x5) ∧ W'.cell? ⟨g, a * 6 + 5, none⟩ = some (.slice x6 x7 x8) from ⟨cell_on h' g0, cell_on h' g1, cell_on h' g2, cell_on h' g3, cell_on h' g4, cell_on h' g5, cell_on h' f0, cell_on h' f1, cell_on h' f2, cell_on h' f3, cell_on h' f4, cell_on h' f5⟩))
      have HCM := Lib.hid (clo55_any wr.drew y.name x.name y0 x0 y1 y2 x1 x2 y3 y6 x3 x6 y4 y5 y7 y8 x4 x5 x7 x8)
      obtain ⟨ci, hci⟩ : ∃ ci, cmpI y.name x.name = ci := ⟨_, rfl⟩
      have hcn := cmpI_neg y.name x.name
      rw [hci] at HCM hcn
      have HCN := Lib.hid hcn
      have hh0 : (0 : Int) ≤ (h : Int) := by omega
      have hh1 : (h : Int) < (n : Int) := by omega
      have ha0 : (0 : Int) ≤ (a : Int) := by omega
      have ha1 : (a : Int) < (n : Int) := by omega
      clear hci hcn has hrow dB tB hy hu hlx hly f0 g0 f1 g1 f2 g2 f3 g3 f4 g4 f5 g5
      by_cases hneg : ci < 0
      · have HLT := Lib.hid (show ltF y x = true by have := HCN.out; rw [eq_iff_iff] at this; exact this.1 hneg)
        go_upto_region 5 with fail
        go_region_held3 (fun w' => w'.cell? ⟨g, h * 6, none⟩ = some (.string y.name) ∧ w'.cell? ⟨g, h * 6 + 1, none⟩ = some (.int .i64 y0) ∧ w'.cell? ⟨g, h * 6 + 2, none⟩ = some (.string y1) ∧ w'.cell? ⟨g, h * 6 + 3, none⟩ = some (.string y2) ∧ w'.cell? ⟨g, h * 6 + 4, none⟩ = some (.slice y3 y4 y5) ∧ w'.cell? ⟨g, h * 6 + 5, none⟩ = some (.slice y6 y7 y8) ∧ w'.cell? ⟨g, a * 6, none⟩ = some (.string x.name) ∧ w'.cell? ⟨g, a * 6 + 1, none⟩ = some (.int .i64 x0) ∧ w'.cell? ⟨g, a * 6 + 2, none⟩ = some (.string x1) ∧ w'.cell? ⟨g, a * 6 + 3, none⟩ = some (.string x2) ∧ w'.cell? ⟨g, a * 6 + 4, none⟩ = some (.slice x3 x4 x5) ∧ w'.cell? ⟨g, a * 6 + 5, none⟩ = some (.slice x6 x7 x8)) (first | exact HSW.out _ (Below.refl _ _).drew | exact HSW.out _ HB7.out) (first | (go_at_call 55; refine HCM.out.mono ?_; rintro e w7 ⟨rfl, hb7⟩; have HB7 : Hid (Below wr.heap.size wr w7) := Lib.hid (below_drew hb7); clear hb7))
        go_wp2_with fail
        refine ⟨⟨h + 1, j, u + 1, t, Lib.hid (by have := HU.out; omega), HJ, by omega, hjb, by omega, Lib.hid (lt_take HSB.out u x y HY.out HLT.out), H2, by go_num, rfl, HAS.out.trans (Aside.of HB7.out), HROW.out.below HB7.out⟩, by simp [intOf]; omega⟩
      · have HLT := Lib.hid (show ltF y x = false by
          cases h : ltF y x with
          | false => rfl
          | true => exact absurd (by have := HCN.out; rw [eq_iff_iff] at this; exact this.2 h) hneg)
        go_upto_region 5 with fail
        go_region_held3 (fun w' => w'.cell? ⟨g, h * 6, none⟩ = some (.string y.name) ∧ w'.cell? ⟨g, h * 6 + 1, none⟩ = some (.int .i64 y0) ∧ w'.cell? ⟨g, h * 6 + 2, none⟩ = some (.string y1) ∧ w'.cell? ⟨g, h * 6 + 3, none⟩ = some (.string y2) ∧ w'.cell? ⟨g, h * 6 + 4, none⟩ = some (.slice y3 y4 y5) ∧ w'.cell? ⟨g, h * 6 + 5, none⟩ = some (.slice y6 y7 y8) ∧ w'.cell? ⟨g, a * 6, none⟩ = some (.string x.name) ∧ w'.cell? ⟨g, a * 6 + 1, none⟩ = some (.int .i64 x0) ∧ w'.cell? ⟨g, a * 6 + 2, none⟩ = some (.string x1) ∧ w'.cell? ⟨g, a * 6 + 3, none⟩ = some (.string x2) ∧ w'.cell? ⟨g, a * 6 + 4, none⟩ = some (.slice x3 x4 x5) ∧ w'.cell? ⟨g, a * 6 + 5, none⟩ = some (.slice x6 x7 x8)) (first | exact HSW.out _ (Below.refl _ _).drew | exact HSW.out _ HB7.out) (first | (go_at_call 55; refine HCM.out.mono ?_; rintro e w7 ⟨rfl, hb7⟩; have HB7 : Hid (Below wr.heap.size wr w7) := Lib.hid (below_drew hb7); clear hb7))
        go_wp2_with fail
        refine ⟨⟨i, h, s, u, HI, HU, by omega, by omega, by omega, H1, Lib.hid (ge_drop HSB.out u x y HY.out HLT.out), rfl, rfl, HAS.out.trans (Aside.of HB7.out), HROW.out.below HB7.out⟩, by simp [intOf]; omega⟩
    · obtain rfl : i = j := by omega
      obtain rfl : s = t := by have := HI.out; have := HJ.out; omega
      have HG := Lib.hid (show mrg ltF [x] B = B.take s ++ x :: B.drop s by
        have := mrg_front (lt := ltF) (B.take s) (B.drop s) x H1.out H2.out
        rwa [List.take_append_drop] at this)
      have HROW := Lib.hid hrow
      obtain ⟨r, hr⟩ : ∃ r, r = i - 1 := ⟨_, rfl⟩
      have hwr : IntKind.i64.wrap ((i : Int) - 1) = (r : Int) := by rw [IntWalk.i64_left, IntWalk.wrap64_in _ (by omega)]; omega
      have HRS := Lib.hid (show r = a + s by have := HI.out; have := HM.out; omega)
      have HSB2 := Lib.hid (show s ≤ B.length by have := HI.out; have := HBL.out; omega)
      have hrb : r < b := by omega
      have har : a ≤ r := by have := HRS.out; omega
      have HAS1 := HAS
      have HROW1 := HROW
      clear has hrow hr H1 H2 HAS HROW
      go_wp2_with fail
      go_loopw [13] (fun kv wr => ∃ k e : Nat, Hid (k = a + e) ∧ k ≤ r ∧ kv = .int .i64 k ∧ Aside g g w wr ∧ FRow w0 d wr g (P ++ B.take e ++ x :: B.drop e ++ Q)) (fun kv _ => r - (intOf kv).toNat)
      case atStart => exact ⟨a, 0, Lib.hid rfl, har, rfl, HAS1.out, by simpa using HROW1.out⟩
      case round =>
        obtain ⟨k, e, HK, hkr, rfl, has, hrow⟩ := hrel
        have HAS := Lib.hid has
        by_cases hlt : k < r
        · obtain ⟨y, hy⟩ : ∃ y, B[e]? = some y := ⟨_, List.getElem?_eq_getElem (by have := HSB2.out; have := HRS.out; have := HK.out; omega)⟩
          obtain ⟨dB, tB⟩ := list_at B e y hy
          have hE : P ++ B.take e ++ x :: B.drop e ++ Q = (P ++ B.take e) ++ x :: ([] ++ y :: (B.drop (e + 1) ++ Q)) := by rw [dB]; simp
          have HE2 := Lib.hid (show P ++ B.take (e + 1) ++ x :: B.drop (e + 1) ++ Q = (P ++ B.take e) ++ y :: ([] ++ x :: (B.drop (e + 1) ++ Q)) by rw [tB]; simp)
          rw [hE] at hrow
          have hk : (P ++ B.take e).length = k := by rw [List.length_append, List.length_take, HP.out]; have := HK.out; have := HSB2.out; have := HRS.out; omega
          obtain ⟨q, hq⟩ : ∃ q, q = k + 1 := ⟨_, rfl⟩
          obtain ⟨x0, x1, x2, x3, x4, x5, x6, x7, x8, ⟨f0, f1, f2, f3, f4, f5⟩, hlx⟩ := hrow.cell k x (by rw [← hk]; exact get_mid _ _ _)
          obtain ⟨y0, y1, y2, y3, y4, y5, y6, y7, y8, ⟨g0, g1, g2, g3, g4, g5⟩, hly⟩ := hrow.cell q y (by
            rw [hq, ← hk, show (P ++ B.take e).length + 1 = ((P ++ B.take e) ++ [x]).length by simp [Nat.add_assoc], show (P ++ B.take e) ++ x :: ([] ++ y :: (B.drop (e + 1) ++ Q)) = ((P ++ B.take e) ++ [x]) ++ y :: (B.drop (e + 1) ++ Q) by simp]
            exact get_mid _ _ _)
          have HSWP := Lib.hid (swap_two (P ++ B.take e) [] (B.drop (e + 1) ++ Q) x y k q hk (by simp [hq]) hrow _ _ _ _ _ _ _ _ _ _ _ _ hlx hly)
          have hgl := hrow.lt
          have fz := hrow.frozen
          have hw2 : IntKind.i64.wrap ((k : Int) + 1) = (q : Int) := by rw [IntWalk.i64_left, IntWalk.wrap64_in _ (by omega)]; omega
          have hpq : k < q := by omega
          have hp0 : (0 : Int) ≤ (k : Int) := by omega
          have hp1 : (k : Int) < (n : Int) := by omega
          have hq0 : (0 : Int) ≤ (q : Int) := by omega
          have hq1 : (q : Int) < (n : Int) := by omega
          have HQ := Lib.hid hq
          clear has hrow hE hy dB tB hk hq hlx hly
          go_upto_region 11 with fail
          go_region
          go_wp2_with fail
          refine ⟨⟨q, e + 1, Lib.hid (by have := HK.out; have := HQ.out; omega), by have := HQ.out; omega, by go_num, ((HAS.out.six _ _ _ _ _ _ _).six _ _ _ _ _ _ _).drew, ?_⟩, by simp [intOf]; omega⟩
          rw [HE2.out]
          exact HSWP.out.1.below (Below.refl _ _).drew
        · have hkr' : k = r := by omega
          have HES := Lib.hid (show e = s by have := HK.out; have := HRS.out; omega)
          have HROW := Lib.hid hrow
          clear has hrow
          go_wp2_with fail
          go_end0
          refine ⟨⟨_, rfl⟩, ?_, HAS.out⟩
          rw [HG.out]
          have := HROW.out
          rw [HES.out] at this
          simpa using this
end Go.Proofs.Ytcelpmojhjnggaa
