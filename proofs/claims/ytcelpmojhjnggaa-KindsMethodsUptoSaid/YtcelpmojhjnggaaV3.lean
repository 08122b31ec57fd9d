/- Fields are put in order: two rows change places. -/
import Derived.Test.YtcelpmojhjnggaaV2
import Derived.Deep.Cut
import Derived.Deep.DeepCutAuto
import Derived.Deep.RegionHeld3
import Derived.BigRegion
namespace Go.Proofs.Ytcelpmojhjnggaa
open Go Go.RowKit Go.Sort Go.Deep KindsP
set_option maxHeartbeats 4000000
set_option maxRecDepth 100000

theorem list_at {α : Type} (X : List α) (i : Nat) (x : α) (h : X[i]? = some x) : X.drop i = x :: X.drop (i + 1) ∧ X.take (i + 1) = X.take i ++ [x] := by
  obtain ⟨hi, rfl⟩ := List.getElem?_eq_some_iff.1 h
  exact ⟨List.drop_eq_getElem_cons hi, by rw [List.take_add_one, List.getElem?_eq_getElem hi]; rfl⟩
theorem swap81_any (d : Nat) (w0 w : World) (g n c a b m : Nat) (P X M Y Q : List Fld) (hP : P.length = a) (hX : X.length = m) (hY : Y.length = m) (hb : b = a + m + M.length) (hnm : n ≤ 1000000000) (hn : b + m ≤ n) (hr : FRow w0 d w g (P ++ X ++ M ++ Y ++ Q)) :
    Calls Try.prog 81 #[.slice (some ⟨g, 0, none⟩) n c, .int .i64 a, .int .i64 b, .int .i64 m, fCmp] w (TurnPost w0 d w g (P ++ Y ++ M ++ X ++ Q)) := by
  have HR := Lib.hid hr
  have HP := Lib.hid hP
  have HX := Lib.hid hX
  have HY := Lib.hid hY
  have HB := Lib.hid hb
  have hab : a + m ≤ b := by omega
  clear hr hP hX hY hb
  go_enter Try.func81, Try.ntmps81
  go_wp2_with fail
  go_loopw [10] (fun iv wr => ∃ i : Nat, i ≤ m ∧ iv = .int .i64 i ∧ Aside g g w wr ∧ FRow w0 d wr g (P ++ (Y.take i ++ X.drop i) ++ M ++ (X.take i ++ Y.drop i) ++ Q)) (fun iv _ => m - (intOf iv).toNat)
  case atStart => exact ⟨0, by omega, rfl, Aside.refl _ _ _, by simpa using HR.out⟩
  case round =>
    obtain ⟨i, him, rfl, has, hrow⟩ := hrel
    have HAS := Lib.hid has
    by_cases hlt : i < m
    · obtain ⟨x, hx⟩ : ∃ x, X[i]? = some x := ⟨_, List.getElem?_eq_getElem (by have := HX.out; omega)⟩
      obtain ⟨y, hy⟩ : ∃ y, Y[i]? = some y := ⟨_, List.getElem?_eq_getElem (by have := HY.out; omega)⟩
      obtain ⟨dX, tX⟩ := list_at X i x hx
      obtain ⟨dY, tY⟩ := list_at Y i y hy
      have lY : (Y.take i).length = i := by rw [List.length_take]; have := HY.out; omega
      have lX : (X.take i).length = i := by rw [List.length_take]; have := HX.out; omega
      have lX2 : (X.drop (i + 1)).length = m - (i + 1) := by rw [List.length_drop, HX.out]
      have hE : P ++ (Y.take i ++ X.drop i) ++ M ++ (X.take i ++ Y.drop i) ++ Q = (P ++ Y.take i) ++ x :: ((X.drop (i + 1) ++ M ++ X.take i) ++ y :: (Y.drop (i + 1) ++ Q)) := by rw [dX, dY]; simp
      have HE2 := Lib.hid (show P ++ (Y.take (i + 1) ++ X.drop (i + 1)) ++ M ++ (X.take (i + 1) ++ Y.drop (i + 1)) ++ Q = (P ++ Y.take i) ++ y :: ((X.drop (i + 1) ++ M ++ X.take i) ++ x :: (Y.drop (i + 1) ++ Q)) by rw [tX, tY]; simp)
      rw [hE] at hrow
      obtain ⟨p, hp⟩ : ∃ p, (P ++ Y.take i).length = p := ⟨_, rfl⟩
      obtain ⟨q, hq⟩ : ∃ q, q = p + 1 + (X.drop (i + 1) ++ M ++ X.take i).length := ⟨_, rfl⟩
      have hpa : p = a + i := by rw [← hp, List.length_append, lY, HP.out]
      have hqb : q = b + i := by rw [hq, hpa, List.length_append, List.length_append, lX, lX2, HB.out]; omega
      obtain ⟨x0, x1, x2, x3, x4, x5, x6, x7, x8, ⟨f0, f1, f2, f3, f4, f5⟩, hlx⟩ := hrow.cell p x (by rw [← hp]; exact get_mid _ _ _)
      obtain ⟨y0, y1, y2, y3, y4, y5, y6, y7, y8, ⟨g0, g1, g2, g3, g4, g5⟩, hly⟩ := hrow.cell q y (by
        rw [hq, ← hp, show (P ++ Y.take i).length + 1 + (X.drop (i + 1) ++ M ++ X.take i).length = ((P ++ Y.take i) ++ x :: (X.drop (i + 1) ++ M ++ X.take i)).length by simp <;> omega, show (P ++ Y.take i) ++ x :: ((X.drop (i + 1) ++ M ++ X.take i) ++ y :: (Y.drop (i + 1) ++ Q)) = ((P ++ Y.take i) ++ x :: (X.drop (i + 1) ++ M ++ X.take i)) ++ y :: (Y.drop (i + 1) ++ Q) by simp]
        exact get_mid _ _ _)
      have HSWP := Lib.hid (swap_two (P ++ Y.take i) (X.drop (i + 1) ++ M ++ X.take i) (Y.drop (i + 1) ++ Q) x y p q hp hq hrow _ _ _ _ _ _ _ _ _ _ _ _ hlx hly)
      have hgl := hrow.lt
      have fz := hrow.frozen
      have hw1 : IntKind.i64.wrap ((a : Int) + (i : Int)) = (p : Int) := by rw [IntWalk.i64_left, IntWalk.wrap64_in _ (by omega)]; omega
      have hw2 : IntKind.i64.wrap ((b : Int) + (i : Int)) = (q : Int) := by rw [IntWalk.i64_left, IntWalk.wrap64_in _ (by omega)]; omega
      have hpq : p < q := by omega
      have hp0 : (0 : Int) ≤ (p : Int) := by omega
      have hp1 : (p : Int) < (n : Int) := by omega
      have hq0 : (0 : Int) ≤ (q : Int) := by omega
      have hq1 : (q : Int) < (n : Int) := by omega
      clear has hrow hE hx hy dX tX dY tY lY lX lX2 hp hq hpa hqb hlx hly
      go_upto_region 3 with fail
      go_region
      go_wp2_with fail
      refine ⟨⟨i + 1, by omega, by go_num, ((HAS.out.six _ _ _ _ _ _ _).six _ _ _ _ _ _ _).drew, ?_⟩, by simp [intOf]; omega⟩
      rw [HE2.out]
      exact HSWP.out.1.below (Below.refl _ _).drew
    · obtain rfl : i = m := by omega
      have HROW := Lib.hid hrow
      clear has hrow
      go_wp2_with fail
      go_end0
      refine ⟨⟨_, rfl⟩, ?_, HAS.out⟩
      have := HROW.out
      rw [List.take_of_length_le (by rw [HY.out]; exact Nat.le_refl _), List.drop_eq_nil_of_le (by rw [HX.out]; exact Nat.le_refl _), List.take_of_length_le (by rw [HX.out]; exact Nat.le_refl _), List.drop_eq_nil_of_le (by rw [HY.out]; exact Nat.le_refl _)] at this
      simpa using this
end Go.Proofs.Ytcelpmojhjnggaa
