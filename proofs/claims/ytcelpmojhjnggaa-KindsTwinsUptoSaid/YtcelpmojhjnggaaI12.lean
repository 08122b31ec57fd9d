/- The walk of KindsSame. -/
import Derived.Test.YtcelpmojhjnggaaI11
import Derived.Test.YtcelpmojhjnggaaI07
namespace Go.Proofs.Ytcelpmojhjnggaa
open Go Go.RowKit Go.Sort KindsP
set_option maxHeartbeats 2000000
set_option maxRecDepth 100000

mutual
theorem sameT_refl : ∀ t : Ty, sameT t t = true
  | .mk k p n la lr => by
    have hb : ∀ b : ByteArray, (b == b) = true := fun b => by rw [beq_toListBytes]; simp
    rw [sameT, sameL_refl la, sameL_refl lr, hb, hb]; simp
theorem sameL_refl : ∀ l : List Ty, sameL l l = true
  | [] => by rw [sameL]
  | x :: xs => by rw [sameL, sameT_refl x, sameL_refl xs]; rfl
end
theorem KindsSame_x (w : World) (d : Nat) (ka kb : Int) (pa na pb nb : ByteArray) (a1 a4 b1 b4 : Option Addr) (a2 a3 a5 a6 b2 b3 b5 b6 : Nat) (ta tb : Ty) (ha : Lies w d (.agg #[.int .i64 ka, .string pa, .string na, .slice a1 a2 a3, .slice a4 a5 a6]) ta) (hb : Lies w d (.agg #[.int .i64 kb, .string pb, .string nb, .slice b1 b2 b3, .slice b4 b5 b6]) tb) (hba : bulkT ta ≤ 1000000000) (hbb : bulkT tb ≤ 1000000000) :
    Calls Try.prog 5 #[.agg #[.int .i64 ka, .string pa, .string na, .slice a1 a2 a3, .slice a4 a5 a6], .agg #[.int .i64 kb, .string pb, .string nb, .slice b1 b2 b3, .slice b4 b5 b6]] w fun e w' => e = .returned (.bool true) ∧ Below w.heap.size w w' := by
  obtain ⟨W, hW⟩ : ∃ W, W = ((w.alloc (.cells #[.int .i64 ka, .string pa, .string na, .slice a1 a2 a3, .slice a4 a5 a6] 31)).alloc (.cells #[.int .i64 kb, .string pb, .string nb, .slice b1 b2 b3, .slice b4 b5 b6] 31)).alloc (.cells #[.int .i64 ka, .string pa, .string na, .slice a1 a2 a3, .slice a4 a5 a6, .int .i64 kb, .string pb, .string nb, .slice b1 b2 b3, .slice b4 b5 b6] 31) := ⟨_, rfl⟩
  have hBW : Below w.heap.size w W := by rw [hW]; exact (((Below.refl _ _).alloc (Nat.le_refl _) _).alloc (by simp) _).alloc (by simp <;> omega) _
  have hA0 : W.heap[w.heap.size]? = some (.cells #[.int .i64 ka, .string pa, .string na, .slice a1 a2 a3, .slice a4 a5 a6] 31) := by rw [hW]; exact (heap_alloc_old _ _ (by simp <;> omega)).trans ((heap_alloc_old _ _ (by simp)).trans (heap_alloc_new w _))
  have hB0 : W.heap[w.heap.size + 1]? = some (.cells #[.int .i64 kb, .string pb, .string nb, .slice b1 b2 b3, .slice b4 b5 b6] 31) := by
    rw [hW]
    refine (heap_alloc_old _ _ (by simp)).trans ?_
    have := heap_alloc_new (w.alloc (.cells #[.int .i64 ka, .string pa, .string na, .slice a1 a2 a3, .slice a4 a5 a6] 31)) (.cells #[.int .i64 kb, .string pb, .string nb, .slice b1 b2 b3, .slice b4 b5 b6] 31)
    rwa [show (w.alloc (.cells #[.int .i64 ka, .string pa, .string na, .slice a1 a2 a3, .slice a4 a5 a6] 31)).heap.size = w.heap.size + 1 by simp] at this
  have hC0 : W.heap[w.heap.size + 1 + 1]? = some (.cells #[.int .i64 ka, .string pa, .string na, .slice a1 a2 a3, .slice a4 a5 a6, .int .i64 kb, .string pb, .string nb, .slice b1 b2 b3, .slice b4 b5 b6] 31) := by
    rw [hW]
    have := heap_alloc_new ((w.alloc (.cells #[.int .i64 ka, .string pa, .string na, .slice a1 a2 a3, .slice a4 a5 a6] 31)).alloc (.cells #[.int .i64 kb, .string pb, .string nb, .slice b1 b2 b3, .slice b4 b5 b6] 31)) (.cells #[.int .i64 ka, .string pa, .string na, .slice a1 a2 a3, .slice a4 a5 a6, .int .i64 kb, .string pb, .string nb, .slice b1 b2 b3, .slice b4 b5 b6] 31)
    rwa [show ((w.alloc (.cells #[.int .i64 ka, .string pa, .string na, .slice a1 a2 a3, .slice a4 a5 a6] 31)).alloc (.cells #[.int .i64 kb, .string pb, .string nb, .slice b1 b2 b3, .slice b4 b5 b6] 31)).heap.size = w.heap.size + 1 + 1 by simp] at this
  have hgr := great_any d W _ [ta, tb] (row_two hC0 (Lies.below hBW _ _ _ ha) (Lies.below hBW _ _ _ hb))
  have HA := Lib.hid ha
  have HB := Lib.hid hb
  have HBW := Lib.hid hBW
  have HA0 := Lib.hid hA0
  have HB0 := Lib.hid hB0
  have hsW : w.heap.size + 1 + 1 < W.heap.size := (Array.getElem?_eq_some_iff.1 hC0).1
  clear ha hb hBW hA0 hB0 hC0
  cases hg : greatB [ta, tb]
  · rw [hg] at hgr
    clear hg
    cases hs : sameT ta tb
    all_goals
      have HSM := Lib.hid hs
      clear hs
      go_enter Try.func5, Try.ntmps5
      go_wp2_with (first | (go_at_call 12; rw [← hW]; refine hgr.mono ?_; rintro e w4 ⟨rfl, hb4⟩; refine Hid.out ?_))
      refine Lib.hid ?_
      have hk := (hb4.block w.heap.size (by omega)).trans HA0.out
      have hk1 := (hb4.block (w.heap.size + 1) (by omega)).trans HB0.out
      have k0 := cell_regrown (show w4.cell? ⟨w.heap.size, 0, none⟩ = some (.int .i64 ka) by simp [World.cell?, hk])
      have l0 := cell_regrown (show w4.cell? ⟨w.heap.size + 1, 0, none⟩ = some (.int .i64 kb) by simp [World.cell?, hk1])
      have k1 := cell_regrown (show w4.cell? ⟨w.heap.size, 1, none⟩ = some (.string pa) by simp [World.cell?, hk])
      have l1 := cell_regrown (show w4.cell? ⟨w.heap.size + 1, 1, none⟩ = some (.string pb) by simp [World.cell?, hk1])
      have k2 := cell_regrown (show w4.cell? ⟨w.heap.size, 2, none⟩ = some (.string na) by simp [World.cell?, hk])
      have l2 := cell_regrown (show w4.cell? ⟨w.heap.size + 1, 2, none⟩ = some (.string nb) by simp [World.cell?, hk1])
      have k3 := cell_regrown (show w4.cell? ⟨w.heap.size, 3, none⟩ = some (.slice a1 a2 a3) by simp [World.cell?, hk])
      have l3 := cell_regrown (show w4.cell? ⟨w.heap.size + 1, 3, none⟩ = some (.slice b1 b2 b3) by simp [World.cell?, hk1])
      have k4 := cell_regrown (show w4.cell? ⟨w.heap.size, 4, none⟩ = some (.slice a4 a5 a6) by simp [World.cell?, hk])
      have l4 := cell_regrown (show w4.cell? ⟨w.heap.size + 1, 4, none⟩ = some (.slice b4 b5 b6) by simp [World.cell?, hk1])
      have HB4 := Lib.hid (HBW.out.trans (hb4.mono HBW.out.size))
      have LA := fun dd os => Lies.below (HB4.out.trans ((below_regrown w4 dd os).mono HB4.out.size)) _ _ _ HA.out
      have LB := fun dd os => Lies.below (HB4.out.trans ((below_regrown w4 dd os).mono HB4.out.size)) _ _ _ HB.out
      have c12 := fun dd os => Calls.regrown_of (same_any d d (grow (redrawn w4 dd) os) _ _ _ _ (LA dd os) (LB dd os))
      have c15 := fun dd os => Calls.regrown_of (Same_any d d (grow (redrawn w4 dd) os) _ _ _ _ (LA dd os) (LB dd os))
      have c19 := fun dd os => Calls.regrown_of (text_any d (grow (redrawn w4 dd) os) _ _ (LA dd os) hba)
      have c21 := fun dd os => Calls.regrown_of (Text_any d (grow (redrawn w4 dd) os) _ _ (LA dd os) hba)
      have c26 := fun dd os => Calls.regrown_of (text_any d (grow (redrawn w4 dd) os) _ _ (LB dd os) hbb)
      have c28 := fun dd os => Calls.regrown_of (Text_any d (grow (redrawn w4 dd) os) _ _ (LB dd os) hbb)
      have c34 := fun dd os => Calls.regrown_of (same_any d d (grow (redrawn w4 dd) os) _ _ _ _ (LA dd os) (LA dd os))
      have c37 := fun dd os => Calls.regrown_of (awake_any (grow (redrawn w4 dd) os))
      rw [HSM.out] at c12 c15
      rw [sameT_refl] at c34
      clear LA LB hk hk1 hb4 hgr
      go_wp2_with (refine wp_region_quiet_below (by kernel_rfl) (by kernel_rfl) ?_; quiet_step (fail); quiet_step (fail); quiet_step (exact c12 _ _); quiet_step (fail); quiet_step (fail); quiet_step (exact c15 _ _); quiet_step (fail); quiet_step (fail); quiet_step (fail); quiet_step (exact c19 _ _); quiet_step (fail); quiet_step (exact c21 _ _); quiet_step (fail); quiet_step (fail); quiet_step (fail); quiet_step (fail); quiet_step (exact c26 _ _); quiet_step (fail); quiet_step (exact c28 _ _); quiet_step (fail); quiet_step (fail); quiet_step (fail); quiet_step (fail); quiet_step (fail); quiet_step (exact c34 _ _); quiet_step (fail); quiet_step (fail); quiet_step (exact c37 _ _); quiet_step (fail); quiet_step (fail); refine wpQuiet_nil ?_; intro _ hw'; obtain ⟨⟨dq, osq⟩, hw''⟩ := hw'; subst hw'')
      go_wp2
      go_ret
      exact ⟨rfl, HB4.out.trans ((below_regrown _ dq osq).mono HB4.out.size)⟩
  · rw [hg] at hgr
    clear hg
    go_enter Try.func5, Try.ntmps5
    go_wp2_with (first | (go_at_call 12; rw [← hW]; refine hgr.mono ?_; rintro e w4 ⟨rfl, hb4⟩; have HB4 := Lib.hid (HBW.out.trans (hb4.mono HBW.out.size)); clear hb4) | (go_at_call 13; refine (awake_any _).mono ?_; rintro e w5 ⟨rfl, hb5⟩))
    go_ret
    exact ⟨rfl, HB4.out.trans (hb5.mono HB4.out.size)⟩
theorem KindsSame_any (w : World) (d : Nat) (va vb : Value) (ta tb : Ty) (ha : Lies w d va ta) (hb : Lies w d vb tb) (hba : bulkT ta ≤ 1000000000) (hbb : bulkT tb ≤ 1000000000) :
    Calls Try.prog 5 #[va, vb] w fun e w' => e = .returned (.bool true) ∧ Below w.heap.size w w' := by
  obtain ⟨x0, x1, x2, x3, x4, rfl⟩ := lies_five ha
  obtain ⟨y0, y1, y2, y3, y4, rfl⟩ := lies_five hb
  obtain ⟨_, _, _, _, _, _, _, _, _, rfl, rfl, rfl, rfl, rfl⟩ := lies_form ha
  obtain ⟨_, _, _, _, _, _, _, _, _, rfl, rfl, rfl, rfl, rfl⟩ := lies_form hb
  exact KindsSame_x w d _ _ _ _ _ _ _ _ _ _ _ _ _ _ _ _ _ _ ta tb ha hb hba hbb
end Go.Proofs.Ytcelpmojhjnggaa

/- Fields and declarations that are one. -/
namespace Go.Proofs.Ytcelpmojhjnggaa
open Go Go.RowKit Go.Sort Go.Deep KindsP
set_option maxHeartbeats 4000000
set_option maxRecDepth 100000

theorem SameFields_same (d d' : Nat) (w : World) (v v' : Value) (fs : List Fld) (h : RowG 6 (LiesF w d) w v fs) (h' : RowG 6 (LiesF w d') w v' fs) : Calls Try.prog 30 #[v, v'] w fun e w' => e = .returned (.bool true) ∧ Below w.heap.size w w' := by
  obtain ⟨a, c, rfl, hcc, hcm, hf⟩ := h.form
  obtain ⟨a', c', rfl, hcc', hcm', hf'⟩ := h'.form
  have hll := Nat.le_trans hcc hcm
  unfold maxLen at hll
  have HA := Lib.hid h
  have HA' := Lib.hid h'
  clear h h'
  go_enter Try.func30, Try.ntmps30
  go_wp2_with fail
  go_loopw [5] (fun iv wr => ∃ (k : Nat), k ≤ fs.length ∧ iv = .int .i64 k ∧ Below w.heap.size w wr) (fun iv _ => fs.length - (intOf iv).toNat)
  case atStart => exact ⟨0, by omega, rfl, Below.refl _ _⟩
  case round =>
    obtain ⟨k, hk, rfl, hb⟩ := hrel
    have HB := Lib.hid hb
    clear hb
    by_cases hlt : k < fs.length
    · obtain ⟨b, o, rfl⟩ := hf (by omega)
      obtain ⟨b', o', rfl⟩ := hf' (by omega)
      obtain ⟨cs, ⟨z0, z1, z2, z3, z4, rfl, hty⟩, hcs⟩ := HA.out.get k fs[k] (by simp)
      obtain ⟨cs', ⟨z5, z6, z7, z8, z9, rfl, hty'⟩, hcs'⟩ := HA'.out.get k fs[k] (by simp)
      obtain ⟨x, hx⟩ : ∃ x, fs[k] = x := ⟨_, rfl⟩
      rw [hx] at hty hty' hcs hcs'
      obtain ⟨nm, t⟩ := x
      dsimp only at hty hty' hcs hcs'
      obtain ⟨x0, x1, x2, x3, x4, x5, x6, x7, x8, rfl, rfl, rfl, rfl, rfl⟩ := lies_form hty
      obtain ⟨y0, y1, y2, y3, y4, y5, y6, y7, y8, rfl, rfl, rfl, rfl, rfl⟩ := lies_form hty'
      have f0 := cell_on HB.out (hcs 0 _ rfl)
      have g0 := cell_on HB.out (hcs' 0 _ rfl)
      have f1 := cell_on HB.out (hcs 1 _ rfl)
      have g1 := cell_on HB.out (hcs' 1 _ rfl)
      have f2 := cell_on HB.out (hcs 2 _ rfl)
      have g2 := cell_on HB.out (hcs' 2 _ rfl)
      have f3 := cell_on HB.out (hcs 3 _ rfl)
      have g3 := cell_on HB.out (hcs' 3 _ rfl)
      have f4 := cell_on HB.out (hcs 4 _ rfl)
      have g4 := cell_on HB.out (hcs' 4 _ rfl)
      have f5 := cell_on HB.out (hcs 5 _ rfl)
      have g5 := cell_on HB.out (hcs' 5 _ rfl)
      rw [Nat.add_zero] at f0 g0
      have HCT := Lib.hid (Same_any d d' wr.drew _ _ t t (Lies.below HB.out.drew _ _ _ hty) (Lies.below HB.out.drew _ _ _ hty'))
      rw [sameT_refl] at HCT
      have HSW := Lib.hid (fun (W' : World) (h : Below wr.heap.size wr W') => (show W'.cell? ⟨b, o + k * 6, none⟩ = some (.string nm) ∧ W'.cell? ⟨b, o + k * 6 + 1, none⟩ = some (.int .i64 x0) ∧ W'.cell? ⟨b, o + k * 6 + 2, none⟩ = some (.string x1) ∧ W'.cell? ⟨b, o + k * 6 + 3, none⟩ = some (.string x2) ∧ W'.cell? ⟨b, o + k * 6 + 4, none⟩ = some (.slice x3 x4 x5) ∧ W'.cell? ⟨b, o + k * 6 + 5, none⟩ = some (.slice x6 x7 x8) ∧ W'.cell? ⟨b', o' + k * 6, none⟩ = some (.string nm) ∧ W'.cell? ⟨b', o' + k * 6 + 1, none⟩ = some (.int .i64 y0) ∧ W'.cell? ⟨b', o' + k * 6 + 2, none⟩ = some (.string y1) ∧ W'.cell? ⟨b', o' + k * 6 + 3, none⟩ = some (.string y2) ∧ W'.cell? ⟨b', o' + k * 6 + 4, none⟩ = some (.slice y3 y4 y5) ∧ W'.cell? ⟨b', o' + k * 6 + 5, none⟩ = some (.slice y6 y7 y8) from ⟨cell_on h f0, cell_on h f1, cell_on h f2, cell_on h f3, cell_on h f4, cell_on h f5, cell_on h g0, cell_on h g1, cell_on h g2, cell_on h g3, cell_on h g4, cell_on h g5⟩))
      have k0 : (0 : Int) ≤ (k : Int) := by omega
      have k1 : (k : Int) < (fs.length : Int) := by omega
      clear hcs hcs' hty hty' hx f0 g0 f1 g1 f2 g2 f3 g3 f4 g4 f5 g5
      go_upto_region 6 with fail
      go_region_held3 (fun w' => w'.cell? ⟨b, o + k * 6, none⟩ = some (.string nm) ∧ w'.cell? ⟨b, o + k * 6 + 1, none⟩ = some (.int .i64 x0) ∧ w'.cell? ⟨b, o + k * 6 + 2, none⟩ = some (.string x1) ∧ w'.cell? ⟨b, o + k * 6 + 3, none⟩ = some (.string x2) ∧ w'.cell? ⟨b, o + k * 6 + 4, none⟩ = some (.slice x3 x4 x5) ∧ w'.cell? ⟨b, o + k * 6 + 5, none⟩ = some (.slice x6 x7 x8) ∧ w'.cell? ⟨b', o' + k * 6, none⟩ = some (.string nm) ∧ w'.cell? ⟨b', o' + k * 6 + 1, none⟩ = some (.int .i64 y0) ∧ w'.cell? ⟨b', o' + k * 6 + 2, none⟩ = some (.string y1) ∧ w'.cell? ⟨b', o' + k * 6 + 3, none⟩ = some (.string y2) ∧ w'.cell? ⟨b', o' + k * 6 + 4, none⟩ = some (.slice y3 y4 y5) ∧ w'.cell? ⟨b', o' + k * 6 + 5, none⟩ = some (.slice y6 y7 y8)) (first | exact HSW.out _ (Below.refl _ _).drew | exact HSW.out _ HB7.out) (first | (go_at_call 19; refine HCT.out.mono ?_; rintro e w7 ⟨rfl, hb7⟩; have HB7 : Hid (Below wr.heap.size wr w7) := Lib.hid (below_drew hb7); clear hb7))
      go_wp2_with fail
      exact ⟨⟨k + 1, by omega, by go_num, HB.out.trans (HB7.out.mono HB.out.size)⟩, by simp [intOf]; omega⟩
    · go_wp2_with fail
      go_ret
      exact ⟨rfl, HB.out⟩
theorem SameDecl_x (d d' : Nat) (w : World) (kd kd' : Int) (nm nm' of of' : ByteArray) (vl vl' : Int) (x0 y0 : Int) (x1 x2 y1 y2 : ByteArray) (x3 x6 y3 y6 xf yf : Option Addr) (x4 x5 x7 x8 y4 y5 y7 y8 nf cf nf' cf' : Nat) (x : Dcl) (h : LiesD w d [.int .i64 kd, .string nm, .string of, .int .i64 vl, .int .i64 x0, .string x1, .string x2, .slice x3 x4 x5, .slice x6 x7 x8, .slice xf nf cf] x) (h' : LiesD w d' [.int .i64 kd', .string nm', .string of', .int .i64 vl', .int .i64 y0, .string y1, .string y2, .slice y3 y4 y5, .slice y6 y7 y8, .slice yf nf' cf'] x) :
    Calls Try.prog 27 #[.agg #[.int .i64 kd, .string nm, .string of, .int .i64 vl, .int .i64 x0, .string x1, .string x2, .slice x3 x4 x5, .slice x6 x7 x8, .slice xf nf cf], .agg #[.int .i64 kd', .string nm', .string of', .int .i64 vl', .int .i64 y0, .string y1, .string y2, .slice y3 y4 y5, .slice y6 y7 y8, .slice yf nf' cf']] w fun e w' => e = .returned (.bool true) ∧ Below w.heap.size w w' := by
  obtain ⟨c0, c1, c2, c3, c4, vf, e, ht, hfs⟩ := h
  simp only [List.cons.injEq, Value.int.injEq, Value.string.injEq, true_and, and_true] at e
  obtain ⟨rfl, rfl, rfl, rfl, rfl, rfl, rfl, rfl, rfl, rfl⟩ := e
  obtain ⟨c0, c1, c2, c3, c4, vf, e, ht', hfs'⟩ := h'
  simp only [List.cons.injEq, Value.int.injEq, Value.string.injEq, true_and, and_true] at e
  obtain ⟨rfl, rfl, rfl, rfl, rfl, rfl, rfl, rfl, rfl, rfl⟩ := e
  obtain ⟨kd, nm, of, vl, t, fs⟩ := x
  dsimp only at *
  have hb2 := alloc2_below w (.cells #[.int .i64 kd, .string nm, .string of, .int .i64 vl, .int .i64 x0, .string x1, .string x2, .slice x3 x4 x5, .slice x6 x7 x8, .slice xf nf cf] 41) (.cells #[.int .i64 kd, .string nm, .string of, .int .i64 vl, .int .i64 y0, .string y1, .string y2, .slice y3 y4 y5, .slice y6 y7 y8, .slice yf nf' cf'] 41)
  have HT := Lib.hid (Same_any d d' _ _ _ t t (Lies.below hb2 _ _ _ ht) (Lies.below hb2 _ _ _ ht'))
  rw [sameT_refl] at HT
  have HF := Lib.hid (fun W (hb : Below w.heap.size w W) => SameFields_same d d' W _ _ fs (hfs.mono (LiesF.below hb d) hb) (hfs'.mono (LiesF.below hb d') hb))
  clear ht ht' hfs hfs' hb2
  go_enter Try.func27, Try.ntmps27
  go_wp2_with (first | (go_at_call 19; refine HT.out.mono ?_; rintro e w2 ⟨rfl, hb2⟩; obtain ⟨hk, hk1, hb⟩ := alloc_known2 hb2; have c9 : w2.cell? ⟨w.heap.size, 9, none⟩ = some (.slice xf nf cf) := (cell_of_row _ _ 9 _ _ _ hk).trans rfl; have d9 : w2.cell? ⟨w.heap.size + 1, 9, none⟩ = some (.slice yf nf' cf') := (cell_of_row _ _ 9 _ _ _ hk1).trans rfl; have HB := Lib.hid hb; clear hb2 hk hk1 hb) | (go_at_call 30; refine (HF.out _ HB.out).mono ?_; rintro e w3 ⟨rfl, hb3⟩; have HB3 := Lib.hid (HB.out.trans (hb3.mono HB.out.size)); clear hb3))
  go_ret
  exact ⟨rfl, HB3.out⟩
def zTy0 : Ty := .mk 0 ⟨#[]⟩ ⟨#[]⟩ [] []
def zD : Dcl := ⟨0, ⟨#[]⟩, ⟨#[]⟩, 0, zTy0, []⟩
theorem zD_lies (w : World) (d : Nat) : LiesD w (d + 1) [.int .i64 0, .string ⟨#[]⟩, .string ⟨#[]⟩, .int .i64 0, .int .i64 0, .string ⟨#[]⟩, .string ⟨#[]⟩, .slice none 0 0, .slice none 0 0, .slice none 0 0] zD :=
  ⟨_, _, _, _, _, _, rfl, ⟨_, _, rfl, ⟨none, 0, rfl, by simp, by unfold maxLen; omega, .inl rfl⟩, ⟨none, 0, rfl, by simp, by unfold maxLen; omega, .inl rfl⟩⟩, RowG.nil _ _ _⟩
/-- what Find hands back, cell by cell -/
theorem find_vals {w0 w w' : World} {d : Nat} {r : Option Dcl} {e : Ending} (h : FindPost w0 w d r e w') : Below w.heap.size w w' ∧ ∃ (kd : Int) (nm of : ByteArray) (vl x0 : Int) (x1 x2 : ByteArray) (x3 : Option Addr) (x4 x5 : Nat) (x6 : Option Addr) (x7 x8 : Nat) (xf : Option Addr) (nf cf : Nat),
    e = .returned (.tuple #[.agg #[.int .i64 kd, .string nm, .string of, .int .i64 vl, .int .i64 x0, .string x1, .string x2, .slice x3 x4 x5, .slice x6 x7 x8, .slice xf nf cf], .bool r.isSome]) ∧ LiesD w0 (d + 1) [.int .i64 kd, .string nm, .string of, .int .i64 vl, .int .i64 x0, .string x1, .string x2, .slice x3 x4 x5, .slice x6 x7 x8, .slice xf nf cf] (r.getD zD) := by
  obtain ⟨hb, h⟩ := h
  refine ⟨hb, ?_⟩
  cases r with
  | none => exact ⟨0, ⟨#[]⟩, ⟨#[]⟩, 0, 0, ⟨#[]⟩, ⟨#[]⟩, none, 0, 0, none, 0, 0, none, 0, 0, h, zD_lies w0 d⟩
  | some x =>
    obtain ⟨cs, rfl, hl⟩ := h
    have hl' := hl
    obtain ⟨c0, c1, c2, c3, c4, vf, rfl, ht, hfs⟩ := hl'
    obtain ⟨x0, x1, x2, x3, x4, x5, x6, x7, x8, rfl, rfl, rfl, rfl, rfl⟩ := lies_form ht
    obtain ⟨xf, cf, rfl, _⟩ := hfs.form
    exact ⟨_, _, _, _, x0, x1, x2, x3, x4, x5, x6, x7, x8, xf, _, cf, rfl, hl.le (Nat.le_succ _)⟩
end Go.Proofs.Ytcelpmojhjnggaa
