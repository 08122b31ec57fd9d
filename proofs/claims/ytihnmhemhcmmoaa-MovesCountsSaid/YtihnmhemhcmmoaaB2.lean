/- The walks of the document's Do, of Words and of MovesDoes. -/
import Derived.Test.YtihnmhemhcmmoaaB1
namespace Go.Proofs.Ytihnmhemhcmmoaa
open Go Go.RowKit Go.Maps Go.WideMaps Go.Sort
set_option maxHeartbeats 2000000
set_option maxRecDepth 100000

theorem do13 (w0 : World) (vm vc : Value) (ms : List Mv) (l : List Int) (hm : MvRow w0 vm ms) (hl : IRow w0 vc l) (hml : ms.length ≤ 1000000) (hll : l.length ≤ 1000000) :
    Calls Try.prog 13 #[vm, vc] w0 fun e w' => ∃ u, e = .returned u ∧ w'.ownsRow w0.heap.size 2 1 u (doP ms l).length ((doP ms l).map (Value.int .i64)) ∧ Below w0.heap.size w0 w' := by
  obtain ⟨⟨a, c, rfl, hc, hcm, hcells⟩, h64⟩ := hm
  obtain ⟨v1, w1, hr1, ho1, hb1⟩ := copy_run w0 vc l hl hll
  obtain ⟨ai, ci, rfl, _⟩ := hl
  obtain ⟨n, hn⟩ : ∃ n, l.length = n := ⟨_, rfl⟩
  obtain ⟨R, hR⟩ : ∃ R, doP ms l = R := ⟨_, rfl⟩
  have hRl : R.length = n := by rw [← hR, doP_len]; exact hn
  rw [hn] at ho1 hr1 hll ⊢
  rw [hR, hRl]
  obtain ⟨ag, cc, rfl⟩ := own_shape ho1
  have HR1 := Lib.hid hr1
  have HO1 := Lib.hid ho1
  have HB1 := Lib.hid hb1
  have HC := Lib.hid hcells
  have HR := Lib.hid hR
  clear hr1 ho1 hb1 hcells h64 hR hn hRl
  go_enter Try.func13, Try.ntmps13
  go_wp2_with (first | (at_builtin; refine Lib.wpList_append_run_sl _ rfl _ _ 33 rfl _ _ rfl rfl HR1.out ?_))
  go_loopw [6] (fun iv wr => ∃ (j : Nat) (l' : List Int), j ≤ ms.length ∧ iv = .int .i64 j ∧ Hid (Below w0.heap.size w0 wr ∧ wr.ownsRow w0.heap.size 2 1 (.slice ag n cc) n (l'.map (Value.int .i64)) ∧ doP (ms.drop j) l' = R)) (fun iv _ => ms.length - (intOf iv).toNat)
  case atStart => exact ⟨0, l, by omega, rfl, Lib.hid ⟨HB1.out, HO1.out, HR.out⟩⟩
  case round =>
    obtain ⟨j, l', hj, rfl, HR⟩ := hrel
    by_cases hjl : j < ms.length
    · obtain ⟨hbel, hown, hdo⟩ := HR.out
      have hl' : l'.length = n := by have := hown.1; simpa using this
      have hd : ms.drop j = ms[j] :: ms.drop (j + 1) := List.drop_eq_getElem_cons hjl
      obtain ⟨m, hmj⟩ : ∃ m, ms[j] = m := ⟨_, rfl⟩
      rw [hd, hmj, doP, hl'] at hdo
      rcases HC.out with h0 | ⟨bm, om, rfl, hcell⟩
      · rw [h0] at hjl; simp at hjl
      obtain ⟨g0, g1⟩ := hcell j m (by rw [List.getElem?_eq_getElem hjl, hmj])
      have f0 := hbel.cell (World.block_lt_of_cell? w0 _ g0) |>.trans g0
      have f1 := hbel.cell (World.block_lt_of_cell? w0 _ g1) |>.trans g1
      obtain ⟨t, ht⟩ : ∃ t, m.tc = t := ⟨_, rfl⟩
      obtain ⟨f, hf⟩ : ∃ f, m.frm = f := ⟨_, rfl⟩
      rw [ht] at f0 hdo
      rw [hf] at f1 hdo
      have hj0 : (0 : Int) ≤ (j : Int) := by omega
      have hj1 : (j : Int) < (ms.length : Int) := by omega
      have HBE := Lib.hid hbel
      have HOW := Lib.hid hown
      have HDO := Lib.hid hdo
      clear hbel hown hdo hl' hd hmj hcell g0 g1 ht hf HR
      by_cases t0 : 0 ≤ t
      · by_cases t1 : t < n
        · by_cases u0 : 0 ≤ f
          · by_cases u1 : f < n
            · rw [if_pos ⟨⟨t0, t1⟩, ⟨u0, u1⟩⟩] at HDO
              obtain ⟨tn, rfl⟩ := Int.eq_ofNat_of_zero_le t0
              obtain ⟨fn, rfl⟩ := Int.eq_ofNat_of_zero_le u0
              have htn : tn < n := by omega
              have hfn : fn < n := by omega
              obtain ⟨g, rfl, hgc, hgf, hgl, hgb⟩ := int_cell HOW.out (by omega)
              have x1 := hgc fn hfn
              have x2 := hgc tn htn
              obtain ⟨x, hx⟩ : ∃ x, l'.getD fn 0 = x := ⟨_, rfl⟩
              rw [hx] at x1
              have hdo := HDO.out
              simp only [Int.toNat_natCast] at hdo
              rw [hx] at hdo
              have HNX := Lib.hid (show Below w0.heap.size w0 (wr.setCell ⟨g, tn, none⟩ (.int .i64 x)) ∧ (wr.setCell ⟨g, tn, none⟩ (.int .i64 x)).ownsRow w0.heap.size 2 1 (.slice (some ⟨g, 0, none⟩) n cc) n ((l'.set tn x).map (Value.int .i64)) ∧ doP (ms.drop (j + 1)) (l'.set tn x) = R from
                ⟨HBE.out.setCell hgb _, own_set HOW.out tn x, hdo⟩)
              clear hgc hx hdo HDO
              go_upto_region 6 with fail
              go_region
              all_goals
                go_wp2_with fail
                exact ⟨⟨j + 1, _, by omega, by go_num, Lib.hid ⟨HNX.out.1.drew, HNX.out.2.1, HNX.out.2.2⟩⟩, by simp [intOf]; omega⟩
            · rw [if_neg (fun h => u1 h.2.2)] at HDO
              go_wp2_with fail
              exact ⟨⟨j + 1, _, by omega, by go_num, Lib.hid ⟨HBE.out, HOW.out, HDO.out⟩⟩, by simp [intOf]; omega⟩
          · rw [if_neg (fun h => u0 h.2.1)] at HDO
            go_wp2_with fail
            exact ⟨⟨j + 1, _, by omega, by go_num, Lib.hid ⟨HBE.out, HOW.out, HDO.out⟩⟩, by simp [intOf]; omega⟩
        · rw [if_neg (fun h => t1 h.1.2)] at HDO
          go_wp2_with fail
          exact ⟨⟨j + 1, _, by omega, by go_num, Lib.hid ⟨HBE.out, HOW.out, HDO.out⟩⟩, by simp [intOf]; omega⟩
      · rw [if_neg (fun h => t0 h.1.1)] at HDO
        go_wp2_with fail
        exact ⟨⟨j + 1, _, by omega, by go_num, Lib.hid ⟨HBE.out, HOW.out, HDO.out⟩⟩, by simp [intOf]; omega⟩
    · obtain rfl : j = ms.length := by omega
      obtain ⟨hbel, hown, hdo⟩ := HR.out
      rw [List.drop_length, doP] at hdo
      subst hdo
      have HO := Lib.hid (And.intro hown hbel)
      clear hbel hown HR
      go_wp2_with fail
      go_ret
      exact ⟨_, rfl, HO.out.1, HO.out.2⟩
/-- Words of the same numbers -/
theorem words11 (w0 : World) (va vb : Value) (l : List Int) (ha : IRow w0 va l) (hb : IRow w0 vb l) (hll : l.length ≤ 1000000) :
    Calls Try.prog 11 #[va, vb] w0 fun e w' => e = .returned (.bool true) ∧ Below w0.heap.size w0 w' := by
  obtain ⟨a, c, rfl, hc, hcm, _, hca⟩ := ha
  obtain ⟨b, d, rfl, hd, hdm, _, hcb⟩ := hb
  obtain ⟨n, hn⟩ : ∃ n, l.length = n := ⟨_, rfl⟩
  have HA := Lib.hid hca
  have HB := Lib.hid hcb
  have HN := Lib.hid hn
  rw [hn] at hll ⊢
  clear hca hcb hc hcm hd hdm hn
  go_enter Try.func11, Try.ntmps11
  go_wp2_with fail
  go_loopw [5] (fun iv wr => ∃ (j : Nat), j ≤ n ∧ iv = .int .i64 j ∧ Hid (Below w0.heap.size w0 wr)) (fun iv _ => n - (intOf iv).toNat)
  case atStart => exact ⟨0, by omega, rfl, Lib.hid (Below.refl _ _)⟩
  case round =>
    obtain ⟨j, hj, rfl, HR⟩ := hrel
    by_cases hjl : j < n
    · have hne : ¬ l = [] := by intro h; rw [h] at HN; have := HN.out; simp at this; omega
      rcases HA.out with h0 | ⟨ba, oa, rfl, hca⟩
      · exact absurd h0 hne
      rcases HB.out with h0 | ⟨bb, ob, rfl, hcb⟩
      · exact absurd h0 hne
      obtain ⟨x, hx⟩ : ∃ x, l[j]? = some x := ⟨_, List.getElem?_eq_getElem (by rw [HN.out]; exact hjl)⟩
      have g0 := hca j x hx
      have g1 := hcb j x hx
      have f0 := (HR.out.cell (World.block_lt_of_cell? w0 _ g0)).trans g0
      have f1 := (HR.out.cell (World.block_lt_of_cell? w0 _ g1)).trans g1
      have r0 := cell_regrown f0
      have r1 := cell_regrown f1
      have hj0 : (0 : Int) ≤ (j : Int) := by omega
      have hj1 : (j : Int) < (n : Int) := by omega
      clear hca hcb hx g0 g1 hne f0 f1
      go_upto_region 6 with fail
      refine wp_region_quiet_below (by kernel_rfl) (by kernel_rfl) ?_; go_big_quiet_step (fail); go_big_quiet_step (fail); go_big_quiet_step (fail); go_big_quiet_step (fail); go_big_quiet_step (fail); go_big_quiet_step (fail); go_big_quiet_step (fail); go_big_quiet_step (fail); go_big_quiet_step (fail); refine wpQuiet_nil ?_; intro _ hw'; obtain ⟨⟨dq, osq⟩, hw''⟩ := hw'; subst hw''
      go_wp2_with fail
      exact ⟨⟨j + 1, by omega, by go_num, Lib.hid (HR.out.trans ((below_regrown _ dq osq).mono HR.out.size))⟩, by simp [intOf]; omega⟩
    · go_wp2_with fail
      go_ret
      exact ⟨rfl, HR.out⟩
theorem MovesDoes_any (w : World) (vm vc : Value) (ms : List Mv) (l : List Int) (hm : MvRow w vm ms) (hl : IRow w vc l) (hml : ms.length ≤ 9223372036854775807) :
    Calls Try.prog 4 #[vm, vc] w fun e w' => e = .returned (.bool true) ∧ Below w.heap.size w w' := by
  by_cases h1 : ms.length ≤ 2000
  · by_cases h2 : l.length ≤ 2000
    · obtain ⟨v1, w1, hr1, ho1, hb1⟩ := copy_run w vc l hl (by omega)
      have H12 := Lib.hid (fun W (hb : Below w.heap.size w W) => do12 W vm vc ms l (hm.below hb) (hl.below hb) (by omega) (by omega))
      have H13 := Lib.hid (fun W (hb : Below w.heap.size w W) => do13 W vm vc ms l (hm.below hb) (hl.below hb) (by omega) (by omega))
      have HW := Lib.hid (fun W va vb (ha : IRow W va (doP ms l)) (hb : IRow W vb (doP ms l)) => words11 W va vb (doP ms l) ha hb (by rw [doP_len]; omega))
      have HL := Lib.hid hl
      obtain ⟨⟨a, c, rfl, _⟩, _⟩ := hm
      obtain ⟨ai, ci, rfl, _⟩ := hl
      obtain ⟨ag, cc, rfl⟩ := own_shape ho1
      have HR1 := Lib.hid hr1
      have HO1 := Lib.hid (IRow.of_own ho1)
      have HB1 := Lib.hid hb1
      have HLL := Lib.hid (show l.length ≤ 1000000 by omega)
      have h1' : ¬ (2000 : Int) < (ms.length : Int) := by omega
      have h2' : ¬ (2000 : Int) < (l.length : Int) := by omega
      clear hr1 ho1 hb1
      go_enter Try.func4, Try.ntmps4
      go_wp2_with (first | (at_builtin; refine Lib.wpList_append_run_sl _ rfl _ _ 33 rfl _ _ rfl rfl HR1.out ?_) | (go_at_call 12; refine (H12.out w1 HB1.out).mono ?_; rintro e w2 ⟨u2, rfl, ho2, hb2⟩; obtain ⟨a2, c2, rfl⟩ := own_shape ho2; have HO2 := Lib.hid (IRow.of_own ho2); have HB2 := Lib.hid (HB1.out.trans (hb2.mono HB1.out.size)); have HS2 := Lib.hid (HO1.out.below hb2); clear ho2 hb2) | (go_at_call 13; refine (H13.out w2 HB2.out).mono ?_; rintro e w3 ⟨u3, rfl, ho3, hb3⟩; obtain ⟨a3, c3, rfl⟩ := own_shape ho3; have HO3 := Lib.hid (IRow.of_own ho3); have HB3 := Lib.hid (HB2.out.trans (hb3.mono HB2.out.size)); have HS3 := Lib.hid (HS2.out.below hb3); have HQ3 := Lib.hid (HO2.out.below hb3); clear ho3 hb3) | (go_at_call_of 11 (Value.slice a2 (doP ms l).length c2); refine (HW.out w3 _ _ HQ3.out HO3.out).mono ?_; rintro e w4 ⟨rfl, hb4⟩; have HB4 := Lib.hid (HB3.out.trans (hb4.mono HB3.out.size)); have HS4 := Lib.hid (HS3.out.below hb4); clear hb4) | (go_at_call_of 11 (Value.slice ai l.length ci); refine (words11 w4 _ _ l (HL.out.below HB4.out) HS4.out HLL.out).mono ?_; rintro e w5 ⟨rfl, hb5⟩; have HB5 := Lib.hid (HB4.out.trans (hb5.mono HB4.out.size)); clear hb5) | (go_at_call 7; refine (awake7 _).mono ?_; rintro e w6 ⟨rfl, hb6⟩; have HB6 := Lib.hid (HB5.out.trans (hb6.mono HB5.out.size)); clear hb6))
      go_ret
      exact ⟨rfl, HB6.out⟩
    · obtain ⟨⟨a, c, rfl, _⟩, _⟩ := hm
      obtain ⟨ai, ci, rfl, _⟩ := hl
      have h1' : ¬ (2000 : Int) < (ms.length : Int) := by omega
      have h2' : (2000 : Int) < (l.length : Int) := by omega
      go_enter Try.func4, Try.ntmps4
      go_wp2_with (first | (go_at_call 7; refine (awake7 _).mono ?_; rintro e w6 ⟨rfl, hb6⟩; have HB6 := Lib.hid hb6; clear hb6))
      go_ret
      exact ⟨rfl, HB6.out⟩
  · obtain ⟨⟨a, c, rfl, _⟩, _⟩ := hm
    obtain ⟨ai, ci, rfl, _⟩ := hl
    have h1' : (2000 : Int) < (ms.length : Int) := by omega
    go_enter Try.func4, Try.ntmps4
    go_wp2_with (first | (go_at_call 7; refine (awake7 _).mono ?_; rintro e w6 ⟨rfl, hb6⟩; have HB6 := Lib.hid hb6; clear hb6))
    go_ret
    exact ⟨rfl, HB6.out⟩
end Go.Proofs.Ytihnmhemhcmmoaa
