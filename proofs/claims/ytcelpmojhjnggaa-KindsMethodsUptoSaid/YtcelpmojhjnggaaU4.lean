/- Parts of a unit, and of units, are counted. -/
import Derived.Test.YtcelpmojhjnggaaU3
namespace Go.Proofs.Ytcelpmojhjnggaa
open Go Go.RowKit Go.Sort Go.Deep KindsP
set_option maxHeartbeats 4000000
set_option maxRecDepth 100000

theorem bulk_some (d : Nat) (w : World) (cs : List Value) (u : Unt) (m : Int) (h : LiesU w d cs u) : Calls Try.prog 48 #[.agg cs.toArray, .int .i64 m] w (SomeInt w) := by
  obtain ⟨vi, vd, vb, li, lb, rfl, hri, hrd, hrb⟩ := h
  obtain ⟨pkg, ds⟩ := u
  obtain ⟨ai, ci, rfl, hci, hmi, _⟩ := hri.form
  obtain ⟨ad, cd, rfl, hcd, hmd, hdf⟩ := hrd.form
  obtain ⟨ab, cb, rfl, hcb, hmb, hbf⟩ := hrb.form
  dsimp only at *
  have HLD := Lib.hid hrd
  have HLB := Lib.hid hrb
  clear hri hrd hrb
  have hli := Nat.le_trans hci hmi
  have hld := Nat.le_trans hcd hmd
  have hlb := Nat.le_trans hcb hmb
  unfold maxLen at hli hld hlb
  obtain ⟨W1, hQ⟩ : ∃ W1, W1 = w.alloc (.cells #[.string pkg, .slice ai li.length ci, .slice ad ds.length cd, .slice ab lb.length cb] 74) := ⟨_, rfl⟩
  have HB1 := Lib.hid (show W1.heap[w.heap.size]? = some (.cells #[.string pkg, .slice ai li.length ci, .slice ad ds.length cd, .slice ab lb.length cb] 74) by rw [hQ]; exact heap_alloc_new w _)
  have HW1 := Lib.hid (show Below w.heap.size w W1 by rw [hQ]; exact (Below.refl _ _).alloc (Nat.le_refl _) _)
  have HS1 := Lib.hid (show w.heap.size + 1 ≤ W1.heap.size by rw [hQ]; simp)
  have HBS : Hid (Below (w.heap.size + 1) W1 (w.alloc (.cells #[.string pkg, .slice ai li.length ci, .slice ad ds.length cd, .slice ab lb.length cb] 74))) := Lib.hid (by rw [hQ]; exact Below.refl _ _)
  clear hQ
  go_enter Try.func48, Try.ntmps48
  go_wp2_with fail
  go_loopw [5, 6] (fun nv iv wr => ∃ (i : Nat) (n : Int), i ≤ ds.length ∧ iv = .int .i64 i ∧ nv = .int .i64 n ∧ Below (w.heap.size + 1) W1 wr) (fun _ iv _ => ds.length - (intOf iv).toNat)
  case atStart => exact ⟨0, _, by omega, rfl, rfl, HBS.out⟩
  case round =>
    obtain ⟨i, n, hi, rfl, rfl, hb⟩ := hrel
    have hbox : wr.heap[w.heap.size]? = _ := (hb.block w.heap.size (by omega)).trans HB1.out
    have c2 : wr.cell? ⟨w.heap.size, 2, none⟩ = some (.slice ad ds.length cd) := by simp [World.cell?, hbox]
    have HB := Lib.hid hb
    have HW := Lib.hid (HW1.out.trans (hb.mono (by omega)))
    clear hb hbox
    by_cases hc : i < ds.length ∧ n ≤ m
    · obtain ⟨hlt, hnm⟩ := hc
      obtain ⟨b, o, rfl⟩ := hdf (by omega)
      obtain ⟨cs, ⟨z0, z1, z2, z3, z4, vf, rfl, hty, hfs⟩, hcs⟩ := HLD.out.get i ds[i] (by simp)
      obtain ⟨x0, x1, x2, x3, x4, x5, x6, x7, x8, rfl, rfl, rfl, rfl, rfl⟩ := lies_form hty
      obtain ⟨fs, hfs0⟩ : ∃ fs, fs = ds[i].fields := ⟨_, rfl⟩
      rw [← hfs0] at hfs
      obtain ⟨af, cf, rfl, hccf, hcmf, hff⟩ := hfs.form
      have hlf := Nat.le_trans hccf hcmf
      unfold maxLen at hlf
      have g4 := cell_on HW.out (hcs 4 _ rfl)
      have g5 := cell_on HW.out (hcs 5 _ rfl)
      have g6 := cell_on HW.out (hcs 6 _ rfl)
      have g7 := cell_on HW.out (hcs 7 _ rfl)
      have g8 := cell_on HW.out (hcs 8 _ rfl)
      have g9 := cell_on HW.out (hcs 9 _ rfl)
      have HC9 := Lib.hid (hcs 9 _ rfl)
      have HFS := Lib.hid hfs
      have HSW := Lib.hid (fun (W' : World) (h : Below wr.heap.size wr W') => (show W'.cell? ⟨w.heap.size, 2, none⟩ = some (.slice (some ⟨b, o, none⟩) ds.length cd) ∧ W'.cell? ⟨b, o + i * 10 + 4, none⟩ = some (.int .i64 x0) ∧ W'.cell? ⟨b, o + i * 10 + 5, none⟩ = some (.string x1) ∧ W'.cell? ⟨b, o + i * 10 + 6, none⟩ = some (.string x2) ∧ W'.cell? ⟨b, o + i * 10 + 7, none⟩ = some (.slice x3 x4 x5) ∧ W'.cell? ⟨b, o + i * 10 + 8, none⟩ = some (.slice x6 x7 x8) ∧ W'.cell? ⟨b, o + i * 10 + 9, none⟩ = some (.slice af fs.length cf) from ⟨cell_on h c2, cell_on h g4, cell_on h g5, cell_on h g6, cell_on h g7, cell_on h g8, cell_on h g9⟩))
      have HCT := Lib.hid (fun mm => count_some d wr.drew _ _ mm (Lies.below HW.out.drew _ _ _ hty))
      have i0 : (0 : Int) ≤ (i : Int) := by omega
      have i1 : (i : Int) < (ds.length : Int) := by omega
      clear hcs hty hfs hfs0 g4 g5 g6 g7 g8 g9
      go_upto_region 5 with fail
      go_region_held3 (fun w' => w'.cell? ⟨w.heap.size, 2, none⟩ = some (.slice (some ⟨b, o, none⟩) ds.length cd) ∧ w'.cell? ⟨b, o + i * 10 + 4, none⟩ = some (.int .i64 x0) ∧ w'.cell? ⟨b, o + i * 10 + 5, none⟩ = some (.string x1) ∧ w'.cell? ⟨b, o + i * 10 + 6, none⟩ = some (.string x2) ∧ w'.cell? ⟨b, o + i * 10 + 7, none⟩ = some (.slice x3 x4 x5) ∧ w'.cell? ⟨b, o + i * 10 + 8, none⟩ = some (.slice x6 x7 x8) ∧ w'.cell? ⟨b, o + i * 10 + 9, none⟩ = some (.slice af fs.length cf)) (first | exact HSW.out _ (Below.refl _ _).drew | exact HSW.out _ HB7.out) (first | (go_at_call 37; refine (HCT.out _).mono ?_; rintro e w7 ⟨⟨c1, rfl⟩, hb7⟩; have HB7 : Hid (Below wr.heap.size wr w7) := Lib.hid (below_drew hb7); clear hb7))
      have HBR := Lib.hid (HB.out.trans (HB7.out.mono (Nat.le_trans HS1.out HB.out.size)))
      clear HB HW c2 HSW HCT
      go_wp2_with fail
      go_loopw [5, 7] (fun nv iv wr => ∃ (k : Nat) (n : Int), k ≤ fs.length ∧ iv = .int .i64 k ∧ nv = .int .i64 n ∧ Below (w.heap.size + 1) W1 wr) (fun _ iv _ => fs.length - (intOf iv).toNat)
      case atStart => exact ⟨0, _, by omega, rfl, rfl, HBR.out⟩
      case round =>
        obtain ⟨k, n, hk, rfl, rfl, hb⟩ := hrel
        have hbox : wr.heap[w.heap.size]? = _ := (hb.block w.heap.size (by omega)).trans HB1.out
        have c2 : wr.cell? ⟨w.heap.size, 2, none⟩ = some (.slice (some ⟨b, o, none⟩) ds.length cd) := by simp [World.cell?, hbox]
        have HB := Lib.hid hb
        have HW := Lib.hid (HW1.out.trans (hb.mono (by omega)))
        have cf9 := cell_on HW.out HC9.out
        clear hb hbox
        by_cases hc : k < fs.length ∧ n ≤ m
        · obtain ⟨hlt2, hnm⟩ := hc
          obtain ⟨b2, o2, rfl⟩ := hff (by omega)
          obtain ⟨cs, ⟨y0, y1, y2, y3, y4, rfl, hty⟩, hcs⟩ := HFS.out.get k fs[k] (by simp)
          have g1 := cell_on HW.out (hcs 1 _ rfl)
          have g2 := cell_on HW.out (hcs 2 _ rfl)
          have g3 := cell_on HW.out (hcs 3 _ rfl)
          have g4 := cell_on HW.out (hcs 4 _ rfl)
          have g5 := cell_on HW.out (hcs 5 _ rfl)
          have HCT := Lib.hid (fun mm => count_some d wr _ _ mm (Lies.below HW.out _ _ _ hty))
          clear hcs hty
          go_wp2_with (first | (go_at_call 37; refine (HCT.out _).mono ?_; rintro e w2 ⟨⟨c1, rfl⟩, hb2⟩; have HB2 := Lib.hid (HB.out.trans (hb2.mono (Nat.le_trans HS1.out HB.out.size))); clear hb2))
          exact ⟨⟨k + 1, _, by omega, by go_num, rfl, HB2.out⟩, by simp [intOf]; omega⟩
        · obtain hc | ⟨hc, hd⟩ : ¬ k < fs.length ∨ (k < fs.length ∧ ¬ n ≤ m) := by omega
          all_goals
            go_wp2_with fail
            exact ⟨⟨i + 1, _, by omega, by go_num, rfl, HB.out⟩, by simp [intOf]; omega⟩
    · obtain hc | ⟨hc, hd⟩ : ¬ i < ds.length ∨ (i < ds.length ∧ ¬ n ≤ m) := by omega
      all_goals
        go_wp2_with fail
        have HBS := HB
        clear HB HW c2 hc
        go_loopw [5, 8] (fun nv iv wr => ∃ (k : Nat) (n : Int), k ≤ lb.length ∧ iv = .int .i64 k ∧ nv = .int .i64 n ∧ Below (w.heap.size + 1) W1 wr) (fun _ iv _ => lb.length - (intOf iv).toNat)
        case atStart => exact ⟨0, _, by omega, rfl, rfl, HBS.out⟩
        case round =>
          obtain ⟨k, n, hk, rfl, rfl, hb⟩ := hrel
          have hbox : wr.heap[w.heap.size]? = _ := (hb.block w.heap.size (by omega)).trans HB1.out
          have c3 : wr.cell? ⟨w.heap.size, 3, none⟩ = some (.slice ab lb.length cb) := by simp [World.cell?, hbox]
          have HB := Lib.hid hb
          have HW := Lib.hid (HW1.out.trans (hb.mono (by omega)))
          clear hb hbox
          by_cases hc : k < lb.length ∧ n ≤ m
          · obtain ⟨hlt, hnm⟩ := hc
            obtain ⟨b, o, rfl⟩ := hbf (by omega)
            obtain ⟨cs, ⟨e0, e1, e2, e3, vs, sl, rfl, hrs⟩, hcs⟩ := HLB.out.get k lb[k] (by simp)
            obtain ⟨a9, c9, rfl, _⟩ := hrs.form
            have hc4 := cell_on HW.out (hcs 4 _ rfl)
            have HRS := Lib.hid (fun mm => stats_some d wr _ sl mm (hrs.mono (LiesS.below HW.out d) HW.out))
            clear hrs hcs
            go_wp2_with (first | (go_at_call 69; refine (HRS.out _).mono ?_; rintro e w2 ⟨⟨c1, rfl⟩, hb2⟩; have HB2 := Lib.hid (HB.out.trans (hb2.mono (Nat.le_trans HS1.out HB.out.size))); clear hb2))
            exact ⟨⟨k + 1, _, by omega, by go_num, rfl, HB2.out⟩, by simp [intOf]; omega⟩
          · obtain hc | ⟨hc, hd⟩ : ¬ k < lb.length ∨ (k < lb.length ∧ ¬ n ≤ m) := by omega
            all_goals
              go_wp2_with fail
              go_ret
              exact ⟨⟨_, rfl⟩, HW.out⟩
def SomeBool (w : World) (e : Ending) (w' : World) : Prop := (∃ b, e = .returned (.bool b)) ∧ Below w.heap.size w w'
theorem units_some (d : Nat) (w : World) (v : Value) (us : List Unt) (h : RowG 4 (LiesU w d) w v us) : Calls Try.prog 24 #[v] w (SomeBool w) := by
  obtain ⟨a, c, rfl, hcc, hcm, hf⟩ := h.form
  have hll := Nat.le_trans hcc hcm
  unfold maxLen at hll
  have HA := Lib.hid h
  clear h
  go_enter Try.func24, Try.ntmps24
  go_wp2_with fail
  go_loopw [3, 4] (fun nv iv wr => ∃ (k : Nat) (n : Int), k ≤ us.length ∧ iv = .int .i64 k ∧ nv = .int .i64 n ∧ Below w.heap.size w wr) (fun _ iv _ => us.length - (intOf iv).toNat)
  case atStart => exact ⟨0, _, by omega, rfl, rfl, Below.refl _ _⟩
  case round =>
    obtain ⟨k, n, hk, rfl, rfl, hb⟩ := hrel
    have HB := Lib.hid hb
    clear hb
    by_cases hc : k < us.length ∧ n ≤ 2000
    · obtain ⟨hlt, hnm⟩ := hc
      obtain ⟨b, o, rfl⟩ := hf (by omega)
      obtain ⟨cs, hu, hcs⟩ := HA.out.get k us[k] (by simp)
      have hu' := hu
      obtain ⟨vi, vd, vb, li, lb, rfl, hri, hrd, hrb⟩ := hu'
      have HBK := Lib.hid (fun mm => bulk_some d wr _ _ mm (LiesU.below HB.out _ _ _ hu))
      obtain ⟨ai, ci, rfl, _⟩ := hri.form
      obtain ⟨ad, cd, rfl, _⟩ := hrd.form
      obtain ⟨ab, cb, rfl, _⟩ := hrb.form
      have g0 := cell_on HB.out (hcs 0 _ rfl)
      rw [Nat.add_zero] at g0
      have g1 := cell_on HB.out (hcs 1 _ rfl)
      have g2 := cell_on HB.out (hcs 2 _ rfl)
      have g3 := cell_on HB.out (hcs 3 _ rfl)
      clear hcs hu hri hrd hrb
      go_wp2_with (first | (go_at_call 48; refine (HBK.out _).mono ?_; rintro e w2 ⟨⟨c1, rfl⟩, hb2⟩; have HB2 := Lib.hid (HB.out.trans (hb2.mono HB.out.size)); clear hb2))
      exact ⟨⟨k + 1, _, by omega, by go_num, rfl, HB2.out⟩, by simp [intOf]; omega⟩
    · obtain hc | ⟨hc, hd⟩ : ¬ k < us.length ∨ (k < us.length ∧ ¬ n ≤ 2000) := by omega
      all_goals
        go_wp2_with fail
        go_ret
        exact ⟨⟨_, rfl⟩, HB.out⟩
end Go.Proofs.Ytcelpmojhjnggaa
