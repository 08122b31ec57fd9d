/- The walk of KindsSame. -/
import Derived.Test.YtcelpmojhjnggaaL0
namespace Go.Proofs.Ytcelpmojhjnggaa
open Go Go.RowKit Go.Sort KindsP
set_option maxHeartbeats 2000000
set_option maxRecDepth 100000

mutual
theorem sameT_refl : ∀ t : Ty, sameT t t = true
  | .mk k p n la lr => by
    have hb : ∀ b : ByteArray, (b == b) = true := fun b => by rw [beq_toListBytes]; simp
    rw [sameT, sameL_refl la, sameL_refl lr, hb, hb]; simp
theorem sameL_refl : ∀ l : List Ty, sameL l l = true
  | [] => by rw [sameL]
  | x :: xs => by rw [sameL, sameT_refl x, sameL_refl xs]; rfl
end
theorem KindsSame_x (w : World) (d : Nat) (ka kb : Int) (pa na pb nb : ByteArray) (a1 a4 b1 b4 : Option Addr) (a2 a3 a5 a6 b2 b3 b5 b6 : Nat) (ta tb : Ty) (ha : Lies w d (.agg #[.int .i64 ka, .string pa, .string na, .slice a1 a2 a3, .slice a4 a5 a6]) ta) (hb : Lies w d (.agg #[.int .i64 kb, .string pb, .string nb, .slice b1 b2 b3, .slice b4 b5 b6]) tb) (hba : bulkT ta ≤ 1000000000) (hbb : bulkT tb ≤ 1000000000) :
    Calls Try.prog 5 #[.agg #[.int .i64 ka, .string pa, .string na, .slice a1 a2 a3, .slice a4 a5 a6], .agg #[.int .i64 kb, .string pb, .string nb, .slice b1 b2 b3, .slice b4 b5 b6]] w fun e w' => e = .returned (.bool true) ∧ Below w.heap.size w w' := by
  obtain ⟨W, hW⟩ : ∃ W, W = ((w.alloc (.cells #[.int .i64 ka, .string pa, .string na, .slice a1 a2 a3, .slice a4 a5 a6] 31)).alloc (.cells #[.int .i64 kb, .string pb, .string nb, .slice b1 b2 b3, .slice b4 b5 b6] 31)).alloc (.cells #[.int .i64 ka, .string pa, .string na, .slice a1 a2 a3, .slice a4 a5 a6, .int .i64 kb, .string pb, .string nb, .slice b1 b2 b3, .slice b4 b5 b6] 31) := ⟨_, rfl⟩
  have hBW : Below w.heap.size w W := by rw [hW]; exact (((Below.refl _ _).alloc (Nat.le_refl _) _).alloc (by simp) _).alloc (by simp <;> omega) _
  have hA0 : W.heap[w.heap.size]? = some (.cells #[.int .i64 ka, .string pa, .string na, .slice a1 a2 a3, .slice a4 a5 a6] 31) := by rw [hW]; exact (heap_alloc_old _ _ (by simp <;> omega)).trans ((heap_alloc_old _ _ (by simp)).trans (heap_alloc_new w _))
  have hB0 : W.heap[w.heap.size + 1]? = some (.cells #[.int .i64 kb, .string pb, .string nb, .slice b1 b2 b3, .slice b4 b5 b6] 31) := by
    rw [hW]
    refine (heap_alloc_old _ _ (by simp)).trans ?_
    have := heap_alloc_new (w.alloc (.cells #[.int .i64 ka, .string pa, .string na, .slice a1 a2 a3, .slice a4 a5 a6] 31)) (.cells #[.int .i64 kb, .string pb, .string nb, .slice b1 b2 b3, .slice b4 b5 b6] 31)
    rwa [show (w.alloc (.cells #[.int .i64 ka, .string pa, .string na, .slice a1 a2 a3, .slice a4 a5 a6] 31)).heap.size = w.heap.size + 1 by simp] at this
  have hC0 : W.heap[w.heap.size + 1 + 1]? = some (.cells #[.int .i64 ka, .string pa, .string na, .slice a1 a2 a3, .slice a4 a5 a6, .int .i64 kb, .string pb, .string nb, .slice b1 b2 b3, .slice b4 b5 b6] 31) := by
    rw [hW]
    have := heap_alloc_new ((w.alloc (.cells #[.int .i64 ka, .string pa, .string na, .slice a1 a2 a3, .slice a4 a5 a6] 31)).alloc (.cells #[.int .i64 kb, .string pb, .string nb, .slice b1 b2 b3, .slice b4 b5 b6] 31)) (.cells #[.int .i64 ka, .string pa, .string na, .slice a1 a2 a3, .slice a4 a5 a6, .int .i64 kb, .string pb, .string nb, .slice b1 b2 b3, .slice b4 b5 b6] 31)
    rwa [show ((w.alloc (.cells #[.int .i64 ka, .string pa, .string na, .slice a1 a2 a3, .slice a4 a5 a6] 31)).alloc (.cells #[.int .i64 kb, .string pb, .string nb, .slice b1 b2 b3, .slice b4 b5 b6] 31)).heap.size = w.heap.size + 1 + 1 by simp] at this
  have hgr := great_any d W _ [ta, tb] (row_two hC0 (Lies.below hBW _ _ _ ha) (Lies.below hBW _ _ _ hb))
  have HA := Lib.hid ha
  have HB := Lib.hid hb
  have HBW := Lib.hid hBW
  have HA0 := Lib.hid hA0
  have HB0 := Lib.hid hB0
  have hsW : w.heap.size + 1 + 1 < W.heap.size := (Array.getElem?_eq_some_iff.1 hC0).1
  clear ha hb hBW hA0 hB0 hC0
  cases hg : greatB [ta, tb]
  · rw [hg] at hgr
    clear hg
    cases hs : sameT ta tb
    all_goals
      have HSM := Lib.hid hs
      clear hs
      go_enter Try.func5, Try.ntmps5
      go_wp2_with (first | (go_at_call 12; rw [← hW]; refine hgr.mono ?_; rintro e w4 ⟨rfl, hb4⟩; refine Hid.out ?_))
      refine Lib.hid ?_
      have hk := (hb4.block w.heap.size (by omega)).trans HA0.out
      have hk1 := (hb4.block (w.heap.size + 1) (by omega)).trans HB0.out
      have k0 := cell_regrown (show w4.cell? ⟨w.heap.size, 0, none⟩ = some (.int .i64 ka) by simp [World.cell?, hk])
      have l0 := cell_regrown (show w4.cell? ⟨w.heap.size + 1, 0, none⟩ = some (.int .i64 kb) by simp [World.cell?, hk1])
      have k1 := cell_regrown (show w4.cell? ⟨w.heap.size, 1, none⟩ = some (.string pa) by simp [World.cell?, hk])
      have l1 := cell_regrown (show w4.cell? ⟨w.heap.size + 1, 1, none⟩ = some (.string pb) by simp [World.cell?, hk1])
      have k2 := cell_regrown (show w4.cell? ⟨w.heap.size, 2, none⟩ = some (.string na) by simp [World.cell?, hk])
      have l2 := cell_regrown (show w4.cell? ⟨w.heap.size + 1, 2, none⟩ = some (.string nb) by simp [World.cell?, hk1])
      have k3 := cell_regrown (show w4.cell? ⟨w.heap.size, 3, none⟩ = some (.slice a1 a2 a3) by simp [World.cell?, hk])
      have l3 := cell_regrown (show w4.cell? ⟨w.heap.size + 1, 3, none⟩ = some (.slice b1 b2 b3) by simp [World.cell?, hk1])
      have k4 := cell_regrown (show w4.cell? ⟨w.heap.size, 4, none⟩ = some (.slice a4 a5 a6) by simp [World.cell?, hk])
      have l4 := cell_regrown (show w4.cell? ⟨w.heap.size + 1, 4, none⟩ = some (.slice b4 b5 b6) by simp [World.cell?, hk1])
      have HB4 := Lib.hid (HBW.out.trans (hb4.mono HBW.out.size))
      have LA := fun dd os => Lies.below (HB4.out.trans ((below_regrown w4 dd os).mono HB4.out.size)) _ _ _ HA.out
      have LB := fun dd os => Lies.below (HB4.out.trans ((below_regrown w4 dd os).mono HB4.out.size)) _ _ _ HB.out
      have c12 := fun dd os => Calls.regrown_of (same_any d d (grow (redrawn w4 dd) os) _ _ _ _ (LA dd os) (LB dd os))
      have c15 := fun dd os => Calls.regrown_of (Same_any d d (grow (redrawn w4 dd) os) _ _ _ _ (LA dd os) (LB dd os))
      have c19 := fun dd os => Calls.regrown_of (text_any d (grow (redrawn w4 dd) os) _ _ (LA dd os) hba)
      have c21 := fun dd os => Calls.regrown_of (Text_any d (grow (redrawn w4 dd) os) _ _ (LA dd os) hba)
      have c26 := fun dd os => Calls.regrown_of (text_any d (grow (redrawn w4 dd) os) _ _ (LB dd os) hbb)
      have c28 := fun dd os => Calls.regrown_of (Text_any d (grow (redrawn w4 dd) os) _ _ (LB dd os) hbb)
      have c34 := fun dd os => Calls.regrown_of (same_any d d (grow (redrawn w4 dd) os) _ _ _ _ (LA dd os) (LA dd os))
      have c37 := fun dd os => Calls.regrown_of (awake_any (grow (redrawn w4 dd) os))
      rw [HSM.out] at c12 c15
      rw [sameT_refl] at c34
      clear LA LB hk hk1 hb4 hgr
      go_wp2_with (refine wp_region_quiet_below (by kernel_rfl) (by kernel_rfl) ?_; quiet_step (fail); quiet_step (fail); quiet_step (exact c12 _ _); quiet_step (fail); quiet_step (fail); quiet_step (exact c15 _ _); quiet_step (fail); quiet_step (fail); quiet_step (fail); quiet_step (exact c19 _ _); quiet_step (fail); quiet_step (exact c21 _ _); quiet_step (fail); quiet_step (fail); quiet_step (fail); quiet_step (fail); quiet_step (exact c26 _ _); quiet_step (fail); quiet_step (exact c28 _ _); quiet_step (fail); quiet_step (fail); quiet_step (fail); quiet_step (fail); quiet_step (fail); quiet_step (exact c34 _ _); quiet_step (fail); quiet_step (fail); quiet_step (exact c37 _ _); quiet_step (fail); quiet_step (fail); refine wpQuiet_nil ?_; intro _ hw'; obtain ⟨⟨dq, osq⟩, hw''⟩ := hw'; subst hw'')
      go_wp2
      go_ret
      exact ⟨rfl, HB4.out.trans ((below_regrown _ dq osq).mono HB4.out.size)⟩
  · rw [hg] at hgr
    clear hg
    go_enter Try.func5, Try.ntmps5
    go_wp2_with (first | (go_at_call 12; rw [← hW]; refine hgr.mono ?_; rintro e w4 ⟨rfl, hb4⟩; have HB4 := Lib.hid (HBW.out.trans (hb4.mono HBW.out.size)); clear hb4) | (go_at_call 13; refine (awake_any _).mono ?_; rintro e w5 ⟨rfl, hb5⟩))
    go_ret
    exact ⟨rfl, HB4.out.trans (hb5.mono HB4.out.size)⟩
theorem KindsSame_any (w : World) (d : Nat) (va vb : Value) (ta tb : Ty) (ha : Lies w d va ta) (hb : Lies w d vb tb) (hba : bulkT ta ≤ 1000000000) (hbb : bulkT tb ≤ 1000000000) :
    Calls Try.prog 5 #[va, vb] w fun e w' => e = .returned (.bool true) ∧ Below w.heap.size w w' := by
  obtain ⟨x0, x1, x2, x3, x4, rfl⟩ := lies_five ha
  obtain ⟨y0, y1, y2, y3, y4, rfl⟩ := lies_five hb
  obtain ⟨_, _, _, _, _, _, _, _, _, rfl, rfl, rfl, rfl, rfl⟩ := lies_form ha
  obtain ⟨_, _, _, _, _, _, _, _, _, rfl, rfl, rfl, rfl, rfl⟩ := lies_form hb
  exact KindsSame_x w d _ _ _ _ _ _ _ _ _ _ _ _ _ _ _ _ _ _ ta tb ha hb hba hbb
end Go.Proofs.Ytcelpmojhjnggaa
