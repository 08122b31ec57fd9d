/- Fields are put in order: a row and one element are made one. -/
import Derived.Test.YtcelpmojhjnggaaI19
import Derived.Deep.Cut
import Derived.Deep.DeepCutAuto
import Derived.Deep.RegionHeld3
import Derived.BigRegion
namespace Go.Proofs.Ytcelpmojhjnggaa
open Go Go.RowKit Go.Sort Go.Deep KindsP
set_option maxHeartbeats 4000000
set_option maxRecDepth 100000

theorem two77 (d : Nat) (w0 w : World) (g n c a m b la : Nat) (P A Q : List Fld) (y : Fld) (hP : P.length = a) (hla : A.length = la) (h2 : 2 ≤ la) (hm : m = a + la) (hb : b = m + 1) (hsA : Srt ltF A) (hnm : n ≤ 1000000000) (hn : b ≤ n) (hr : FRow w0 d w g (P ++ A ++ y :: Q)) :
    Calls Try.prog 77 #[.slice (some ⟨g, 0, none⟩) n c, .int .i64 a, .int .i64 m, .int .i64 b, fCmp] w (TurnPost w0 d w g (P ++ mrg ltF A [y] ++ Q)) := by
  have HR := Lib.hid hr
  have HP := Lib.hid hP
  have HM := Lib.hid hm
  have HLA := Lib.hid hla
  have HSA := Lib.hid hsA
  have ham : a ≤ m := by omega
  have hmn : m < n := by omega
  have hbe : ((la : Int) == 1) = false := by simp; omega
  have hw0 : IntKind.i64.wrap ((m : Int) - (a : Int)) = (la : Int) := by rw [IntWalk.i64_left, IntWalk.wrap64_in _ (by omega)]; omega
  have hw1 : IntKind.i64.wrap ((b : Int) - (m : Int)) = 1 := by rw [IntWalk.i64_left, IntWalk.wrap64_in _ (by omega)]; omega
  clear hr hP hm hb hsA hla
  go_enter Try.func77, Try.ntmps77
  go_wp2_with fail
  go_loopw [14, 15] (fun iv jv wr => ∃ (i j s t : Nat), Hid (i = a + s) ∧ Hid (j = a + t) ∧ i ≤ j ∧ j ≤ m ∧ Hid (∀ z ∈ A.take s, ltF y z = false) ∧ Hid (∀ z ∈ A.drop t, ltF y z = true) ∧ iv = .int .i64 i ∧ jv = .int .i64 j ∧ Aside g g w wr ∧ FRow w0 d wr g (P ++ A ++ y :: Q)) (fun iv jv _ => (intOf jv).toNat - (intOf iv).toNat)
  case atStart => exact ⟨a, m, 0, A.length, Lib.hid rfl, Lib.hid (by rw [HLA.out]; exact HM.out), ham, Nat.le_refl _, Lib.hid (by simp), Lib.hid (by simp), rfl, rfl, Aside.refl _ _ _, HR.out⟩
  case round =>
    obtain ⟨i, j, s, t, HI, HJ, hij, hjm, H1, H2, rfl, rfl, has, hrow⟩ := hrel
    have HAS := Lib.hid has
    by_cases hlt : i < j
    · obtain ⟨h, hh⟩ : ∃ h : Nat, ((i : Int) + (j : Int)) / 2 = (h : Int) := ⟨(i + j) / 2, by omega⟩
      have hih : i ≤ h := by omega
      have hhj : h < j := by omega
      obtain ⟨u, hu⟩ : ∃ u, h = a + u := ⟨h - a, by have := HI.out; omega⟩
      have HU := Lib.hid hu
      obtain ⟨x, hx⟩ : ∃ x, A[u]? = some x := ⟨_, List.getElem?_eq_getElem (by have := HLA.out; have := HM.out; omega)⟩
      have HX := Lib.hid hx
      obtain ⟨dA, tA⟩ := list_at A u x hx
      obtain ⟨x0, x1, x2, x3, x4, x5, x6, x7, x8, ⟨f0, f1, f2, f3, f4, f5⟩, hlx⟩ := hrow.cell h x (by
        have e : P ++ A ++ y :: Q = (P ++ A.take u) ++ x :: (A.drop (u + 1) ++ y :: Q) := by
          have h1 : A = A.take u ++ x :: A.drop (u + 1) := by rw [← dA, List.take_append_drop]
          conv => lhs; rw [h1]
          simp
        have l : (P ++ A.take u).length = h := by rw [List.length_append, List.length_take, HP.out, HLA.out]; have := HM.out; omega
        rw [e, ← l]; exact get_mid _ _ _)
      obtain ⟨y0, y1, y2, y3, y4, y5, y6, y7, y8, ⟨g0, g1, g2, g3, g4, g5⟩, hly⟩ := hrow.cell m y (by
        have l : (P ++ A).length = m := by rw [List.length_append, HP.out, HLA.out]; exact HM.out.symm
        rw [← l]; exact get_mid _ _ _)
      have HROW := Lib.hid hrow
      have HSW := Lib.hid (fun (W' : World) (h' : Below wr.heap.size wr W') => (show W'.cell? ⟨g, m * 6, none⟩ = some (.string y.name) ∧ W'.cell? ⟨g, m * 6 + 1, none⟩ = some (.int .i64 y0) ∧ W'.cell? ⟨g, m * 6 + 2, none⟩ = some (.string y1) ∧ W'.cell? ⟨g, m * 6 + 3, none⟩ = some (.string y2) ∧ W'.cell? ⟨g, m * 6 + 4, none⟩ = some (.slice y3 y4 y5) ∧ W'.cell? ⟨g, m * 6 + 5, none⟩ = some (.slice y6 y7 y8) ∧ W'.cell? ⟨g, h * 6, none⟩ = some (.string x.name) ∧ W'.cell? ⟨g, h * 6 + 1, none⟩ = some (.int .i64 x0) ∧ W'.cell? ⟨g, h * 6 + 2, none⟩ = some (.string x1) ∧ W'.cell? ⟨g, h * 6 + 3, none⟩ = some (.string x2) ∧ W'.cell? ⟨g, h * 6 + 4, none⟩ = some (.slice x3 x4 x5) ∧ W'.cell? ⟨g, h * 6 + 5, none⟩ = some (.slice x6 x7 x8) from ⟨cell_on h' g0, cell_on h' g1, cell_on h' g2, cell_on h' g3, cell_on h' g4, cell_on h' g5, cell_on h' f0, cell_on h' f1, cell_on h' f2, cell_on h' f3, cell_on h' f4, cell_on h' f5⟩))
      have HCM := Lib.hid (clo55_any wr.drew y.name x.name y0 x0 y1 y2 x1 x2 y3 y6 x3 x6 y4 y5 y7 y8 x4 x5 x7 x8)
      obtain ⟨ci, hci⟩ : ∃ ci, cmpI y.name x.name = ci := ⟨_, rfl⟩
      have hcn := cmpI_neg y.name x.name
      rw [hci] at HCM hcn
      have HCN := Lib.hid hcn
      have hh0 : (0 : Int) ≤ (h : Int) := by omega
      have hh1 : (h : Int) < (n : Int) := by omega
      have ha0 : (0 : Int) ≤ (m : Int) := by omega
      have ha1 : (m : Int) < (n : Int) := by omega
      clear hci hcn has hrow dA tA hx hu hlx hly f0 g0 f1 g1 f2 g2 f3 g3 f4 g4 f5 g5
      by_cases hneg : ci < 0
      · have HLT := Lib.hid (show ltF y x = true by have := HCN.out; rw [eq_iff_iff] at this; exact this.1 hneg)
        have hdec : decide (ci < 0) = true := by simpa using hneg
        go_upto_region 17 with fail
        go_region_held3 (fun w' => w'.cell? ⟨g, m * 6, none⟩ = some (.string y.name) ∧ w'.cell? ⟨g, m * 6 + 1, none⟩ = some (.int .i64 y0) ∧ w'.cell? ⟨g, m * 6 + 2, none⟩ = some (.string y1) ∧ w'.cell? ⟨g, m * 6 + 3, none⟩ = some (.string y2) ∧ w'.cell? ⟨g, m * 6 + 4, none⟩ = some (.slice y3 y4 y5) ∧ w'.cell? ⟨g, m * 6 + 5, none⟩ = some (.slice y6 y7 y8) ∧ w'.cell? ⟨g, h * 6, none⟩ = some (.string x.name) ∧ w'.cell? ⟨g, h * 6 + 1, none⟩ = some (.int .i64 x0) ∧ w'.cell? ⟨g, h * 6 + 2, none⟩ = some (.string x1) ∧ w'.cell? ⟨g, h * 6 + 3, none⟩ = some (.string x2) ∧ w'.cell? ⟨g, h * 6 + 4, none⟩ = some (.slice x3 x4 x5) ∧ w'.cell? ⟨g, h * 6 + 5, none⟩ = some (.slice x6 x7 x8)) (first | exact HSW.out _ (Below.refl _ _).drew | exact HSW.out _ HB7.out) (first | (go_at_call 55; refine HCM.out.mono ?_; rintro e w7 ⟨rfl, hb7⟩; have HB7 : Hid (Below wr.heap.size wr w7) := Lib.hid (below_drew hb7); clear hb7))
        go_wp2_with fail
        refine ⟨⟨i, h, s, u, HI, HU, by omega, by omega, H1, Lib.hid (gt_drop HSA.out u x y HX.out HLT.out), rfl, rfl, HAS.out.trans (Aside.of HB7.out), HROW.out.below HB7.out⟩, by simp [intOf]; omega⟩
      · have HLT := Lib.hid (show ltF y x = false by
          cases h : ltF y x with
          | false => rfl
          | true => exact absurd (by have := HCN.out; rw [eq_iff_iff] at this; exact this.2 h) hneg)
        have hdec : decide (ci < 0) = false := by simpa using hneg
        go_upto_region 17 with fail
        go_region_held3 (fun w' => w'.cell? ⟨g, m * 6, none⟩ = some (.string y.name) ∧ w'.cell? ⟨g, m * 6 + 1, none⟩ = some (.int .i64 y0) ∧ w'.cell? ⟨g, m * 6 + 2, none⟩ = some (.string y1) ∧ w'.cell? ⟨g, m * 6 + 3, none⟩ = some (.string y2) ∧ w'.cell? ⟨g, m * 6 + 4, none⟩ = some (.slice y3 y4 y5) ∧ w'.cell? ⟨g, m * 6 + 5, none⟩ = some (.slice y6 y7 y8) ∧ w'.cell? ⟨g, h * 6, none⟩ = some (.string x.name) ∧ w'.cell? ⟨g, h * 6 + 1, none⟩ = some (.int .i64 x0) ∧ w'.cell? ⟨g, h * 6 + 2, none⟩ = some (.string x1) ∧ w'.cell? ⟨g, h * 6 + 3, none⟩ = some (.string x2) ∧ w'.cell? ⟨g, h * 6 + 4, none⟩ = some (.slice x3 x4 x5) ∧ w'.cell? ⟨g, h * 6 + 5, none⟩ = some (.slice x6 x7 x8)) (first | exact HSW.out _ (Below.refl _ _).drew | exact HSW.out _ HB7.out) (first | (go_at_call 55; refine HCM.out.mono ?_; rintro e w7 ⟨rfl, hb7⟩; have HB7 : Hid (Below wr.heap.size wr w7) := Lib.hid (below_drew hb7); clear hb7))
        go_wp2_with fail
        refine ⟨⟨h + 1, j, u + 1, t, Lib.hid (by have := HU.out; omega), HJ, by omega, hjm, Lib.hid (le_take HSA.out u x y HX.out HLT.out), H2, by go_num, rfl, HAS.out.trans (Aside.of HB7.out), HROW.out.below HB7.out⟩, by simp [intOf]; omega⟩
    · obtain rfl : i = j := by omega
      obtain rfl : s = t := by have := HI.out; have := HJ.out; omega
      have HG := Lib.hid (show mrg ltF A [y] = A.take s ++ y :: A.drop s by
        have := mrg_back (lt := ltF) (A.take s) (A.drop s) y H1.out H2.out
        rwa [List.take_append_drop] at this)
      have HROW1 := Lib.hid hrow
      have HAS1 := HAS
      clear has hrow H1 H2 HAS
      go_wp2_with fail
      go_loopw [17] (fun kv wr => ∃ k e : Nat, Hid (k = a + e) ∧ i ≤ k ∧ k ≤ m ∧ kv = .int .i64 k ∧ Aside g g w wr ∧ FRow w0 d wr g (P ++ A.take e ++ y :: A.drop e ++ Q)) (fun kv _ => (intOf kv).toNat)
      case atStart =>
        refine ⟨m, la, HM, hjm, Nat.le_refl _, rfl, HAS1.out, ?_⟩
        rw [List.take_of_length_le (by rw [HLA.out]; exact Nat.le_refl _), List.drop_eq_nil_of_le (by rw [HLA.out]; exact Nat.le_refl _)]
        simpa using HROW1.out
      case round =>
        obtain ⟨k, e, HK, hik, hkm, rfl, has, hrow⟩ := hrel
        have HAS := Lib.hid has
        by_cases hlt : i < k
        · obtain ⟨e', he⟩ : ∃ e', e = e' + 1 := ⟨e - 1, by have := HK.out; have := HI.out; omega⟩
          subst he
          obtain ⟨x, hx⟩ : ∃ x, A[e']? = some x := ⟨_, List.getElem?_eq_getElem (by have := HLA.out; have := HM.out; have := HK.out; omega)⟩
          obtain ⟨dA, tA⟩ := list_at A e' x hx
          have hE : P ++ A.take (e' + 1) ++ y :: A.drop (e' + 1) ++ Q = (P ++ A.take e') ++ x :: ([] ++ y :: (A.drop (e' + 1) ++ Q)) := by rw [tA]; simp
          have HE2 := Lib.hid (show P ++ A.take e' ++ y :: A.drop e' ++ Q = (P ++ A.take e') ++ y :: ([] ++ x :: (A.drop (e' + 1) ++ Q)) by rw [dA]; simp)
          rw [hE] at hrow
          obtain ⟨p, hp⟩ : ∃ p, p = a + e' := ⟨_, rfl⟩
          have hk : (P ++ A.take e').length = p := by rw [List.length_append, List.length_take, HP.out, HLA.out]; have := HK.out; have := HM.out; omega
          have hkp : k = p + 1 := by have := HK.out; omega
          obtain ⟨x0, x1, x2, x3, x4, x5, x6, x7, x8, ⟨f0, f1, f2, f3, f4, f5⟩, hlx⟩ := hrow.cell p x (by rw [← hk]; exact get_mid _ _ _)
          obtain ⟨y0, y1, y2, y3, y4, y5, y6, y7, y8, ⟨g0, g1, g2, g3, g4, g5⟩, hly⟩ := hrow.cell k y (by
            rw [hkp, ← hk, show (P ++ A.take e').length + 1 = ((P ++ A.take e') ++ [x]).length by simp [Nat.add_assoc], show (P ++ A.take e') ++ x :: ([] ++ y :: (A.drop (e' + 1) ++ Q)) = ((P ++ A.take e') ++ [x]) ++ y :: (A.drop (e' + 1) ++ Q) by simp]
            exact get_mid _ _ _)
          have HSWP := Lib.hid (swap_two (P ++ A.take e') [] (A.drop (e' + 1) ++ Q) x y p k hk (by simp [hkp]) hrow _ _ _ _ _ _ _ _ _ _ _ _ hlx hly)
          have hgl := hrow.lt
          have fz := hrow.frozen
          have hw2 : IntKind.i64.wrap ((k : Int) - 1) = (p : Int) := by rw [IntWalk.i64_left, IntWalk.wrap64_in _ (by omega)]; omega
          have hpq : p < k := by omega
          have hp0 : (0 : Int) ≤ (p : Int) := by omega
          have hp1 : (p : Int) < (n : Int) := by omega
          have hq0 : (0 : Int) ≤ (k : Int) := by omega
          have hq1 : (k : Int) < (n : Int) := by omega
          have HPE := Lib.hid hp
          have HKP := Lib.hid hkp
          clear has hrow hE hx dA tA hk hp hkp hlx hly
          go_upto_region 23 with fail
          go_region
          go_wp2_with fail
          refine ⟨⟨p, e', HPE, by have := HKP.out; omega, by have := HKP.out; omega, by go_num, ((HAS.out.six _ _ _ _ _ _ _).six _ _ _ _ _ _ _).drew, ?_⟩, by simp [intOf]; omega⟩
          rw [HE2.out]
          exact HSWP.out.2.below (Below.refl _ _).drew
        · have hkr' : k = i := by omega
          have HES := Lib.hid (show e = s by have := HK.out; have := HI.out; omega)
          have HROW := Lib.hid hrow
          clear has hrow
          go_wp2_with fail
          go_end0
          refine ⟨⟨_, rfl⟩, ?_, HAS.out⟩
          rw [HG.out]
          have := HROW.out
          rw [HES.out] at this
          simpa using this
end Go.Proofs.Ytcelpmojhjnggaa
