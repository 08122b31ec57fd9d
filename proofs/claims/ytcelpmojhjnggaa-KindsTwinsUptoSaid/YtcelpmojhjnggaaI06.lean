/- Parts of a unit, and of units, are counted. -/
import Derived.Test.YtcelpmojhjnggaaI05
namespace Go.Proofs.Ytcelpmojhjnggaa
open Go Go.RowKit Go.Sort Go.Deep KindsP
set_option maxHeartbeats 4000000
set_option maxRecDepth 100000

theorem bulk_some (d : Nat) (w : World) (cs : List Value) (u : Unt) (m : Int) (h : LiesU w d cs u) : Calls Try.prog 48 #[.agg cs.toArray, .int .i64 m] w (SomeInt w) := by
  obtain ⟨vi, vd, vb, li, lb, rfl, hri, hrd, hrb⟩ := h
  obtain ⟨pkg, ds⟩ := u
  obtain ⟨ai, ci, rfl, hci, hmi, _⟩ := hri.form
  obtain ⟨ad, cd, rfl, hcd, hmd, hdf⟩ := hrd.form
  obtain ⟨ab, cb, rfl, hcb, hmb, hbf⟩ := hrb.form
  dsimp only at *
  have HLD := Lib.hid hrd
  have HLB := Lib.hid hrb
  clear hri hrd hrb
  have hli := Nat.le_trans hci hmi
  have hld := Nat.le_trans hcd hmd
  have hlb := Nat.le_trans hcb hmb
  unfold maxLen at hli hld hlb
  obtain ⟨W1, hQ⟩ : ∃ W1, W1 = w.alloc (.cells #[.string pkg, .slice ai li.length ci, .slice ad ds.length cd, .slice ab lb.length cb] 74) := ⟨_, rfl⟩
  have HB1 := Lib.hid (show W1.heap[w.heap.size]? = some (.cells #[.string pkg, .slice ai li.length ci, .slice ad ds.length cd, .slice ab lb.length cb] 74) by rw [hQ]; exact heap_alloc_new w _)
  have HW1 := Lib.hid (show Below w.heap.size w W1 by rw [hQ]; exact (Below.refl _ _).alloc (Nat.le_refl _) _)
  have HS1 := Lib.hid (show w.heap.size + 1 ≤ W1.heap.size by rw [hQ]; simp)
  have HBS : Hid (Below (w.heap.size + 1) W1 (w.alloc (.cells #[.string pkg, .slice ai li.length ci, .slice ad ds.length cd, .slice ab lb.length cb] 74))) := Lib.hid (by rw [hQ]; exact Below.refl _ _)
  clear hQ
  go_enter Try.func48, Try.ntmps48
  go_wp2_with fail
  go_loopw [5, 6] (fun nv iv wr => ∃ (i : Nat) (n : Int), i ≤ ds.length ∧ iv = .int .i64 i ∧ nv = .int .i64 n ∧ Below (w.heap.size + 1) W1 wr) (fun _ iv _ => ds.length - (intOf iv).toNat)
  case atStart => exact ⟨0, _, by omega, rfl, rfl, HBS.out⟩
  case round =>
    obtain ⟨i, n, hi, rfl, rfl, hb⟩ := hrel
    have hbox : wr.heap[w.heap.size]? = _ := (hb.block w.heap.size (by omega)).trans HB1.out
    have c2 : wr.cell? ⟨w.heap.size, 2, none⟩ = some (.slice ad ds.length cd) := by simp [World.cell?, hbox]
    have HB := Lib.hid hb
    have HW := Lib.hid (HW1.out.trans (hb.mono (by omega)))
    clear hb hbox
    by_cases hc : i < ds.length ∧ n ≤ m
    · obtain ⟨hlt, hnm⟩ := hc
      obtain ⟨b, o, rfl⟩ := hdf (by omega)
      obtain ⟨cs, ⟨z0, z1, z2, z3, z4, vf, rfl, hty, hfs⟩, hcs⟩ := HLD.out.get i ds[i] (by simp)
      obtain ⟨x0, x1, x2, x3, x4, x5, x6, x7, x8, rfl, rfl, rfl, rfl, rfl⟩ := lies_form hty
      obtain ⟨fs, hfs0⟩ : ∃ fs, fs = ds[i].fields := ⟨_, rfl⟩
      rw [← hfs0] at hfs
      obtain ⟨af, cf, rfl, hccf, hcmf, hff⟩ := hfs.form
      have hlf := Nat.le_trans hccf hcmf
      unfold maxLen at hlf
      have g4 := cell_on HW.out (hcs 4 _ rfl)
      have g5 := cell_on HW.out (hcs 5 _ rfl)
      have g6 := cell_on HW.out (hcs 6 _ rfl)
      have g7 := cell_on HW.out (hcs 7 _ rfl)
      have g8 := cell_on HW.out (hcs 8 _ rfl)
      have g9 := cell_on HW.out (hcs 9 _ rfl)
      have HC9 := Lib.hid (hcs 9 _ rfl)
      have HFS := Lib.hid hfs
      have HSW := Lib.hid (fun (W' : World) (h : Below wr.heap.size wr W') => (show W'.cell? ⟨w.heap.size, 2, none⟩ = some (.slice (some ⟨b, o, none⟩) ds.length cd) ∧ W'.cell? ⟨b, o + i * 10 + 4, none⟩ = some (.int .i64 x0) ∧ W'.cell? ⟨b, o + i * 10 + 5, none⟩ = some (.string x1) ∧ W'.cell? ⟨b, o + i * 10 + 6, none⟩ = some (.string x2) ∧ W'.cell? ⟨b, o + i * 10 + 7, none⟩ = some (.slice x3 x4 x5) ∧ W'.cell? ⟨b, o + i * 10 + 8, none⟩ = some (.slice x6 x7 x8) ∧ W'.cell? ⟨b, o + i * 10 + 9, none⟩ = some (.slice af fs.length cf) from ⟨cell_on h c2, cell_on h g4, cell_on h g5, cell_on h g6, cell_on h g7, cell_on h g8, cell_on h g9⟩))
      have HCT := Lib.hid (fun mm => count_some d wr.drew _ _ mm (Lies.below HW.out.drew _ _ _ hty))
      have i0 : (0 : Int) ≤ (i : Int) := by omega
      have i1 : (i : Int) < (ds.length : Int) := by omega
      clear hcs hty hfs hfs0 g4 g5 g6 g7 g8 g9
      go_upto_region 5 with fail
      go_region_held3 (fun w' => w'.cell? ⟨w.heap.size, 2, none⟩ = some (.slice (some ⟨b, o, none⟩) ds.length cd) ∧ w'.cell? ⟨b, o + i * 10 + 4, none⟩ = some (.int .i64 x0) ∧ w'.cell? ⟨b, o + i * 10 + 5, none⟩ = some (.string x1) ∧ w'.cell? ⟨b, o + i * 10 + 6, none⟩ = some (.string x2) ∧ w'.cell? ⟨b, o + i * 10 + 7, none⟩ = some (.slice x3 x4 x5) ∧ w'.cell? ⟨b, o + i * 10 + 8, none⟩ = some (.slice x6 x7 x8) ∧ w'.cell? ⟨b, o + i * 10 + 9, none⟩ = some (.slice af fs.length cf)) (first | exact HSW.out _ (Below.refl _ _).drew | exact HSW.out _ HB7.out) (first | (go_at_call 37; refine (HCT.out _).mono ?_; rintro e w7 ⟨⟨c1, rfl⟩, hb7⟩; have HB7 : Hid (Below wr.heap.size wr w7) := Lib.hid (below_drew hb7); clear hb7))
      have HBR := Lib.hid (HB.out.trans (HB7.out.mono (Nat.le_trans HS1.out HB.out.size)))
      clear HB HW c2 HSW HCT
      go_wp2_with fail
      go_loopw [5, 7] (fun nv iv wr => ∃ (k : Nat) (n : Int), k ≤ fs.length ∧ iv = .int .i64 k ∧ nv = .int .i64 n ∧ Below (w.heap.size + 1) W1 wr) (fun _ iv _ => fs.length - (intOf iv).toNat)
      case atStart => exact ⟨0, _, by omega, rfl, rfl, HBR.out⟩
      case round =>
        obtain ⟨k, n, hk, rfl, rfl, hb⟩ := hrel
        have hbox : wr.heap[w.heap.size]? = _ := (hb.block w.heap.size (by omega)).trans HB1.out
        have c2 : wr.cell? ⟨w.heap.size, 2, none⟩ = some (.slice (some ⟨b, o, none⟩) ds.length cd) := by simp [World.cell?, hbox]
        have HB := Lib.hid hb
        have HW := Lib.hid (HW1.out.trans (hb.mono (by omega)))
        have cf9 := cell_on HW.out HC9.out
        clear hb hbox
        by_cases hc : k < fs.length ∧ n ≤ m
        · obtain ⟨hlt2, hnm⟩ := hc
          obtain ⟨b2, o2, rfl⟩ := hff (by omega)
          obtain ⟨cs, ⟨y0, y1, y2, y3, y4, rfl, hty⟩, hcs⟩ := HFS.out.get k fs[k] (by simp)
          have g1 := cell_on HW.out (hcs 1 _ rfl)
          have g2 := cell_on HW.out (hcs 2 _ rfl)
          have g3 := cell_on HW.out (hcs 3 _ rfl)
          have g4 := cell_on HW.out (hcs 4 _ rfl)
          have g5 := cell_on HW.out (hcs 5 _ rfl)
          have HCT := Lib.hid (fun mm => count_some d wr _ _ mm (Lies.below HW.out _ _ _ hty))
          clear hcs hty
          go_wp2_with (first | (go_at_call 37; refine (HCT.out _).mono ?_; rintro e w2 ⟨⟨c1, rfl⟩, hb2⟩; have HB2 := Lib.hid (HB.out.trans (hb2.mono (Nat.le_trans HS1.out HB.out.size))); clear hb2))
          exact ⟨⟨k + 1, _, by omega, by go_num, rfl, HB2.out⟩, by simp [intOf]; omega⟩
        · obtain hc | ⟨hc, hd⟩ : ¬ k < fs.length ∨ (k < fs.length ∧ ¬ n ≤ m) := by omega
          all_goals
            go_wp2_with fail
            exact ⟨⟨i + 1, _, by omega, by go_num, rfl, HB.out⟩, by simp [intOf]; omega⟩
    · obtain hc | ⟨hc, hd⟩ : ¬ i < ds.length ∨ (i < ds.length ∧ ¬ n ≤ m) := by omega
      all_goals
        go_wp2_with fail
        have HBS := HB
        clear HB HW c2 hc
        go_loopw [5, 8] (fun nv iv wr => ∃ (k : Nat) (n : Int), k ≤ lb.length ∧ iv = .int .i64 k ∧ nv = .int .i64 n ∧ Below (w.heap.size + 1) W1 wr) (fun _ iv _ => lb.length - (intOf iv).toNat)
        case atStart => exact ⟨0, _, by omega, rfl, rfl, HBS.out⟩
        case round =>
          obtain ⟨k, n, hk, rfl, rfl, hb⟩ := hrel
          have hbox : wr.heap[w.heap.size]? = _ := (hb.block w.heap.size (by omega)).trans HB1.out
          have c3 : wr.cell? ⟨w.heap.size, 3, none⟩ = some (.slice ab lb.length cb) := by simp [World.cell?, hbox]
          have HB := Lib.hid hb
          have HW := Lib.hid (HW1.out.trans (hb.mono (by omega)))
          clear hb hbox
          by_cases hc : k < lb.length ∧ n ≤ m
          · obtain ⟨hlt, hnm⟩ := hc
            obtain ⟨b, o, rfl⟩ := hbf (by omega)
            obtain ⟨cs, ⟨e0, e1, e2, e3, vs, sl, rfl, hrs⟩, hcs⟩ := HLB.out.get k lb[k] (by simp)
            obtain ⟨a9, c9, rfl, _⟩ := hrs.form
            have hc4 := cell_on HW.out (hcs 4 _ rfl)
            have HRS := Lib.hid (fun mm => stats_some d wr _ sl mm (hrs.mono (LiesS.below HW.out d) HW.out))
            clear hrs hcs
            go_wp2_with (first | (go_at_call 69; refine (HRS.out _).mono ?_; rintro e w2 ⟨⟨c1, rfl⟩, hb2⟩; have HB2 := Lib.hid (HB.out.trans (hb2.mono (Nat.le_trans HS1.out HB.out.size))); clear hb2))
            exact ⟨⟨k + 1, _, by omega, by go_num, rfl, HB2.out⟩, by simp [intOf]; omega⟩
          · obtain hc | ⟨hc, hd⟩ : ¬ k < lb.length ∨ (k < lb.length ∧ ¬ n ≤ m) := by omega
            all_goals
              go_wp2_with fail
              go_ret
              exact ⟨⟨_, rfl⟩, HW.out⟩
def SomeBool (w : World) (e : Ending) (w' : World) : Prop := (∃ b, e = .returned (.bool b)) ∧ Below w.heap.size w w'
theorem units_some (d : Nat) (w : World) (v : Value) (us : List Unt) (h : RowG 4 (LiesU w d) w v us) : Calls Try.prog 24 #[v] w (SomeBool w) := by
  obtain ⟨a, c, rfl, hcc, hcm, hf⟩ := h.form
  have hll := Nat.le_trans hcc hcm
  unfold maxLen at hll
  have HA := Lib.hid h
  clear h
  go_enter Try.func24, Try.ntmps24
  go_wp2_with fail
  go_loopw [3, 4] (fun nv iv wr => ∃ (k : Nat) (n : Int), k ≤ us.length ∧ iv = .int .i64 k ∧ nv = .int .i64 n ∧ Below w.heap.size w wr) (fun _ iv _ => us.length - (intOf iv).toNat)
  case atStart => exact ⟨0, _, by omega, rfl, rfl, Below.refl _ _⟩
  case round =>
    obtain ⟨k, n, hk, rfl, rfl, hb⟩ := hrel
    have HB := Lib.hid hb
    clear hb
    by_cases hc : k < us.length ∧ n ≤ 2000
    · obtain ⟨hlt, hnm⟩ := hc
      obtain ⟨b, o, rfl⟩ := hf (by omega)
      obtain ⟨cs, hu, hcs⟩ := HA.out.get k us[k] (by simp)
      have hu' := hu
      obtain ⟨vi, vd, vb, li, lb, rfl, hri, hrd, hrb⟩ := hu'
      have HBK := Lib.hid (fun mm => bulk_some d wr _ _ mm (LiesU.below HB.out _ _ _ hu))
      obtain ⟨ai, ci, rfl, _⟩ := hri.form
      obtain ⟨ad, cd, rfl, _⟩ := hrd.form
      obtain ⟨ab, cb, rfl, _⟩ := hrb.form
      have g0 := cell_on HB.out (hcs 0 _ rfl)
      rw [Nat.add_zero] at g0
      have g1 := cell_on HB.out (hcs 1 _ rfl)
      have g2 := cell_on HB.out (hcs 2 _ rfl)
      have g3 := cell_on HB.out (hcs 3 _ rfl)
      clear hcs hu hri hrd hrb
      go_wp2_with (first | (go_at_call 48; refine (HBK.out _).mono ?_; rintro e w2 ⟨⟨c1, rfl⟩, hb2⟩; have HB2 := Lib.hid (HB.out.trans (hb2.mono HB.out.size)); clear hb2))
      exact ⟨⟨k + 1, _, by omega, by go_num, rfl, HB2.out⟩, by simp [intOf]; omega⟩
    · obtain hc | ⟨hc, hd⟩ : ¬ k < us.length ∨ (k < us.length ∧ ¬ n ≤ 2000) := by omega
      all_goals
        go_wp2_with fail
        go_ret
        exact ⟨⟨_, rfl⟩, HB.out⟩
end Go.Proofs.Ytcelpmojhjnggaa

/- Units and declarations by their names: unit. -/
namespace Go.Proofs.Ytcelpmojhjnggaa
open Go Go.RowKit Go.Sort KindsP
set_option maxHeartbeats 4000000
set_option maxRecDepth 100000

theorem below_set4 {w w' : World} {B b : Nat} (h : Below B w w') (hb : B ≤ b) (v0 v1 v2 v3 : Value) : Below B w ((((w'.setCell ⟨b, 0, none⟩ v0).setCell ⟨b, 1, none⟩ v1).setCell ⟨b, 2, none⟩ v2).setCell ⟨b, 3, none⟩ v3) := ((((h.setCell (p := ⟨b, 0, none⟩) hb _).setCell (p := ⟨b, 1, none⟩) hb _).setCell (p := ⟨b, 2, none⟩) hb _).setCell (p := ⟨b, 3, none⟩) hb _)
theorem below_set10 {w w' : World} {B b : Nat} (h : Below B w w') (hb : B ≤ b) (v0 v1 v2 v3 v4 v5 v6 v7 v8 v9 : Value) : Below B w ((((((((((w'.setCell ⟨b, 0, none⟩ v0).setCell ⟨b, 1, none⟩ v1).setCell ⟨b, 2, none⟩ v2).setCell ⟨b, 3, none⟩ v3).setCell ⟨b, 4, none⟩ v4).setCell ⟨b, 5, none⟩ v5).setCell ⟨b, 6, none⟩ v6).setCell ⟨b, 7, none⟩ v7).setCell ⟨b, 8, none⟩ v8).setCell ⟨b, 9, none⟩ v9) := ((((((((((h.setCell (p := ⟨b, 0, none⟩) hb _).setCell (p := ⟨b, 1, none⟩) hb _).setCell (p := ⟨b, 2, none⟩) hb _).setCell (p := ⟨b, 3, none⟩) hb _).setCell (p := ⟨b, 4, none⟩) hb _).setCell (p := ⟨b, 5, none⟩) hb _).setCell (p := ⟨b, 6, none⟩) hb _).setCell (p := ⟨b, 7, none⟩) hb _).setCell (p := ⟨b, 8, none⟩) hb _).setCell (p := ⟨b, 9, none⟩) hb _)
/-- the first unit of a package -/
def unitF : List Unt → ByteArray → Option Unt
  | [], _ => none
  | u :: us, p => if (u.pkg == p) = true then some u else unitF us p
def findD : List Dcl → ByteArray → Option Dcl
  | [], _ => none
  | x :: ds, n => if ((x.kind != 6) && (x.name == n)) = true then some x else findD ds n
def declsO : Option Unt → List Dcl
  | none => []
  | some u => u.decls
/-- what a package declares by a name -/
def findU (us : List Unt) (p n : ByteArray) : Option Dcl := findD (declsO (unitF us p)) n
theorem unitF_at (us : List Unt) (p : ByteArray) (k : Nat) (h : k < us.length) : unitF (us.drop k) p = if (us[k].pkg == p) = true then some us[k] else unitF (us.drop (k + 1)) p := by
  rw [List.drop_eq_getElem_cons h, unitF]
theorem findD_at (ds : List Dcl) (n : ByteArray) (k : Nat) (h : k < ds.length) : findD (ds.drop k) n = if ((ds[k].kind != 6) && (ds[k].name == n)) = true then some ds[k] else findD (ds.drop (k + 1)) n := by
  rw [List.drop_eq_getElem_cons h, findD]
def UnitPost (w0 w : World) (d : Nat) (r : Option Unt) (e : Ending) (w' : World) : Prop :=
  Below w.heap.size w w' ∧ ∃ s vi vd vb, e = .returned (.agg #[s, vi, vd, vb]) ∧ RowG 10 (LiesD w0 d) w0 vd (declsO r)
def FindPost (w0 w : World) (d : Nat) (r : Option Dcl) (e : Ending) (w' : World) : Prop :=
  Below w.heap.size w w' ∧ match r with
  | none => e = .returned (.tuple #[.agg #[.int .i64 0, .string ⟨#[]⟩, .string ⟨#[]⟩, .int .i64 0, .int .i64 0, .string ⟨#[]⟩, .string ⟨#[]⟩, .slice none 0 0, .slice none 0 0, .slice none 0 0], .bool false])
  | some x => ∃ cs : List Value, e = .returned (.tuple #[.agg cs.toArray, .bool true]) ∧ LiesD w0 d cs x
theorem unit_any (d : Nat) (w0 w : World) (v : Value) (us : List Unt) (p : ByteArray) (h : RowG 4 (LiesU w0 d) w0 v us) (hb0 : Below w0.heap.size w0 w) : Calls Try.prog 49 #[v, .string p] w (UnitPost w0 w d (unitF us p)) := by
  obtain ⟨a, c, rfl, hcc, hcm, hf⟩ := h.form
  have hll := Nat.le_trans hcc hcm
  unfold maxLen at hll
  have HA := Lib.hid h
  have H0 := Lib.hid hb0
  clear h hb0
  obtain ⟨W1, hQ⟩ : ∃ W1, W1 = w.alloc (.cells #[.string ⟨#[]⟩, .slice none 0 0, .slice none 0 0, .slice none 0 0] 74) := ⟨_, rfl⟩
  have HB1 := Lib.hid (show W1.heap[w.heap.size]? = some (.cells #[.string ⟨#[]⟩, .slice none 0 0, .slice none 0 0, .slice none 0 0] 74) by rw [hQ]; exact heap_alloc_new w _)
  have HW1 := Lib.hid (show Below w.heap.size w W1 by rw [hQ]; exact (Below.refl _ _).alloc (Nat.le_refl _) _)
  have HS1 := Lib.hid (show w.heap.size + 1 ≤ W1.heap.size by rw [hQ]; simp)
  have HBS : Hid (Below (w.heap.size + 1) W1 (w.alloc (.cells #[.string ⟨#[]⟩, .slice none 0 0, .slice none 0 0, .slice none 0 0] 74))) := Lib.hid (by rw [hQ]; exact Below.refl _ _)
  clear hQ
  go_enter Try.func49, Try.ntmps49
  go_wp2_with fail
  go_loopw [9] (fun iv wr => ∃ (k : Nat), k ≤ us.length ∧ iv = .int .i64 k ∧ Below (w.heap.size + 1) W1 wr ∧ Hid (unitF us p = unitF (us.drop k) p)) (fun iv _ => us.length - (intOf iv).toNat)
  case atStart => exact ⟨0, by omega, rfl, HBS.out, rfl⟩
  case round =>
    obtain ⟨k, hk, rfl, hb, H⟩ := hrel
    have hbox : wr.heap[w.heap.size]? = _ := (hb.block w.heap.size (by omega)).trans HB1.out
    have d0 : wr.cell? ⟨w.heap.size, 0, none⟩ = some (.string ⟨#[]⟩) := by simp [World.cell?, hbox]
    have d1 : wr.cell? ⟨w.heap.size, 1, none⟩ = some (.slice none 0 0) := by simp [World.cell?, hbox]
    have d2 : wr.cell? ⟨w.heap.size, 2, none⟩ = some (.slice none 0 0) := by simp [World.cell?, hbox]
    have d3 : wr.cell? ⟨w.heap.size, 3, none⟩ = some (.slice none 0 0) := by simp [World.cell?, hbox]
    have fz : ∀ i, wr.frozen? ⟨w.heap.size, i, none⟩ = false := fun i => by simp [World.frozen?, hbox]
    have hsz : w.heap.size < wr.heap.size := Nat.le_trans HS1.out hb.size
    have HB := Lib.hid hb
    have HW := Lib.hid (HW1.out.trans (hb.mono (by omega)))
    clear hb hbox
    by_cases hlt : k < us.length
    · obtain ⟨b, o, rfl⟩ := hf (by omega)
      obtain ⟨cs, ⟨vi, vd, vb, li, lb, rfl, hri, hrd, hrb⟩, hcs⟩ := HA.out.get k us[k] (by simp)
      have HE := Lib.hid (unitF_at us p k hlt)
      obtain ⟨u, hu⟩ : ∃ u, us[k] = u := ⟨_, rfl⟩
      rw [hu] at HE hrd hcs
      obtain ⟨pkg, ds⟩ := u
      dsimp only at HE hrd hcs
      have HRD := Lib.hid hrd
      obtain ⟨ai, ci, rfl, _⟩ := hri.form
      obtain ⟨ad, cd, rfl, _⟩ := hrd.form
      obtain ⟨ab, cb, rfl, _⟩ := hrb.form
      have g0 := cell_on (H0.out.trans (HW.out.mono H0.out.size)) (hcs 0 _ rfl)
      rw [Nat.add_zero] at g0
      have g1 := cell_on (H0.out.trans (HW.out.mono H0.out.size)) (hcs 1 _ rfl)
      have g2 := cell_on (H0.out.trans (HW.out.mono H0.out.size)) (hcs 2 _ rfl)
      have g3 := cell_on (H0.out.trans (HW.out.mono H0.out.size)) (hcs 3 _ rfl)
      clear hcs hri hrd hrb hu
      cases hp : (pkg == p)
      · have HR := Lib.hid (show unitF us p = unitF (us.drop (k + 1)) p by rw [H.out, HE.out, if_neg (by rw [hp]; simp)])
        have hp' : (pkg.toList == p.toList) = false := by simpa using list_eq hp
        clear H HE hp
        go_wp2_with fail
        exact ⟨⟨k + 1, by omega, by go_num, HB.out.alloc hsz _, HR⟩, by simp [intOf]; omega⟩
      · have HR := Lib.hid (show unitF us p = some ⟨pkg, ds⟩ by rw [H.out, HE.out, if_pos hp])
        have hp' := list_eq' hp
        clear H HE hp
        go_wp2_with fail
        refine bodyPost_ret (v := .agg #[.string pkg, .slice ai li.length ci, .slice ad ds.length cd, .slice ab lb.length cb]) (by simp [results, Try.results49, go_sem, hsz, d0, d1, d2, d3]) rfl ?_
        rw [HR.out]
        have hbf := fun v0 v1 v2 v3 => below_set4 HW.out (Nat.le_refl _) v0 v1 v2 v3
        refine (fun (hz : Below w.heap.size w _) => ⟨hz, _, _, _, _, rfl, HRD.out⟩) ?_
        exact (hbf _ _ _ _).alloc (by simp; omega) _
    · have HR := Lib.hid (show unitF us p = none by rw [H.out, List.drop_eq_nil_of_le (by omega), unitF])
      clear H
      go_wp2_with fail
      refine bodyPost_ret (v := .agg #[.string ⟨#[]⟩, .slice none 0 0, .slice none 0 0, .slice none 0 0]) (by simp [results, Try.results49, go_sem, d0, d1, d2, d3]) rfl ?_
      rw [HR.out]
      exact ⟨below_set4 HW.out (Nat.le_refl _) _ _ _ _, _, _, _, _, rfl, RowG.nil _ _ _⟩
end Go.Proofs.Ytcelpmojhjnggaa
