/- The walk of KindsThrough. -/
import Derived.Test.YtcelpmojhjnggaaH29
import Derived.Test.YtcelpmojhjnggaaH30
import Derived.Deep.Cut
import Derived.Deep.DeepCutAuto
import Derived.BigQuiet
import Derived.Lib.QuietBelow
namespace Go.Proofs.Ytcelpmojhjnggaa
open Go Go.RowKit Go.Sort Go.Deep KindsP
set_option maxHeartbeats 4000000
set_option maxRecDepth 100000

theorem lies_nil {w : World} {D : Nat} {k : Int} {p n : ByteArray} {a1 a2 : Option Addr} {an1 ac1 an2 ac2 : Nat} {t : Ty} (h : Lies w D (.agg #[.int .i64 k, .string p, .string n, .slice a1 an1 ac1, .slice a2 an2 ac2]) t) : sameT (.mk 4 ⟨#[]⟩ ⟨#[]⟩ [] []) t = ((k == 4) && plainB p n an1 an2) := by
  cases D with
  | zero => exact h.elim
  | succ D =>
    obtain ⟨k', p', n', la, lr⟩ := t
    obtain ⟨va, vr, e, ha, hr⟩ := h
    obtain ⟨_, _, e1, _⟩ := ha
    obtain ⟨_, _, e2, _⟩ := hr
    subst e1 e2
    simp only [Value.agg.injEq, Array.mk.injEq, List.cons.injEq, Value.int.injEq, Value.string.injEq, Value.slice.injEq, true_and, and_true] at e
    obtain ⟨rfl, rfl, rfl, ⟨_, rfl, _⟩, _, rfl, _⟩ := e
    exact same_nil _ _ _ _ _
theorem four_lies (w : World) (D : Nat) : Lies w (D + 1) (.agg #[.int .i64 4, .string ⟨#[]⟩, .string ⟨#[]⟩, .slice none 0 0, .slice none 0 0]) (.mk 4 ⟨#[]⟩ ⟨#[]⟩ [] []) := ⟨_, _, rfl, row_nil _ _, row_nil _ _⟩
theorem KindsThrough_x (d D : Nat) (w : World) (v vv : Value) (us : List Unt) (vars : List Fld) (ka kb kc : Int) (pa na pb nb pc nc : ByteArray) (x1 x2 y1 y2 z1 z2 : Option Addr) (xn1 xc1 xn2 xc2 yn1 yc1 yn2 yc2 zn1 zc1 zn2 zc2 : Nat) (ta tb tc : Ty) (h : RowG 4 (LiesU w d) w v us) (hv : RowG 6 (LiesF w d) w vv vars) (hta : Lies w D (.agg #[.int .i64 ka, .string pa, .string na, .slice x1 xn1 xc1, .slice x2 xn2 xc2]) ta) (htb : Lies w D (.agg #[.int .i64 kb, .string pb, .string nb, .slice y1 yn1 yc1, .slice y2 yn2 yc2]) tb) (htc : Lies w D (.agg #[.int .i64 kc, .string pc, .string nc, .slice z1 zn1 zc1, .slice z2 zn2 zc2]) tc) (hbd : ∀ k p n, (baseL us k p n).length ≤ 1000000) (hst : ∀ k p n, ∀ x ∈ baseL us k p n, sizT x.ty ≤ 1000000000) :
    Calls Try.prog 10 #[v, vv, .agg #[.int .i64 ka, .string pa, .string na, .slice x1 xn1 xc1, .slice x2 xn2 xc2], .agg #[.int .i64 kb, .string pb, .string nb, .slice y1 yn1 yc1, .slice y2 yn2 yc2], .agg #[.int .i64 kc, .string pc, .string nc, .slice z1 zn1 zc1, .slice z2 zn2 zc2]] w fun e w' => e = .returned (.bool true) ∧ Below w.heap.size w w' := by
  have HBX := Lib.hid (fun (W : World) (hb : Below (((w.alloc (.cells #[.int .i64 ka, .string pa, .string na, .slice x1 xn1 xc1, .slice x2 xn2 xc2] 31)).alloc (.cells #[.int .i64 kb, .string pb, .string nb, .slice y1 yn1 yc1, .slice y2 yn2 yc2] 31)).alloc (.cells #[.int .i64 kc, .string pc, .string nc, .slice z1 zn1 zc1, .slice z2 zn2 zc2] 31)).heap.size (((w.alloc (.cells #[.int .i64 ka, .string pa, .string na, .slice x1 xn1 xc1, .slice x2 xn2 xc2] 31)).alloc (.cells #[.int .i64 kb, .string pb, .string nb, .slice y1 yn1 yc1, .slice y2 yn2 yc2] 31)).alloc (.cells #[.int .i64 kc, .string pc, .string nc, .slice z1 zn1 zc1, .slice z2 zn2 zc2] 31)) W) => (show (W.cell? ⟨w.heap.size, 0, none⟩ = some (.int .i64 ka) ∧ W.cell? ⟨w.heap.size, 1, none⟩ = some (.string pa) ∧ W.cell? ⟨w.heap.size, 2, none⟩ = some (.string na) ∧ W.cell? ⟨w.heap.size, 3, none⟩ = some (.slice x1 xn1 xc1) ∧ W.cell? ⟨w.heap.size, 4, none⟩ = some (.slice x2 xn2 xc2)) ∧ (W.cell? ⟨w.heap.size + 1, 0, none⟩ = some (.int .i64 kb) ∧ W.cell? ⟨w.heap.size + 1, 1, none⟩ = some (.string pb) ∧ W.cell? ⟨w.heap.size + 1, 2, none⟩ = some (.string nb) ∧ W.cell? ⟨w.heap.size + 1, 3, none⟩ = some (.slice y1 yn1 yc1) ∧ W.cell? ⟨w.heap.size + 1, 4, none⟩ = some (.slice y2 yn2 yc2)) ∧ (W.cell? ⟨w.heap.size + 1 + 1, 0, none⟩ = some (.int .i64 kc) ∧ W.cell? ⟨w.heap.size + 1 + 1, 1, none⟩ = some (.string pc) ∧ W.cell? ⟨w.heap.size + 1 + 1, 2, none⟩ = some (.string nc) ∧ W.cell? ⟨w.heap.size + 1 + 1, 3, none⟩ = some (.slice z1 zn1 zc1) ∧ W.cell? ⟨w.heap.size + 1 + 1, 4, none⟩ = some (.slice z2 zn2 zc2)) ∧ Below w.heap.size w W from by
    obtain ⟨hj, hk, hl, hbw⟩ := alloc_known3 hb
    exact ⟨⟨(cell_of_row _ _ 0 _ _ _ hj).trans rfl, (cell_of_row _ _ 1 _ _ _ hj).trans rfl, (cell_of_row _ _ 2 _ _ _ hj).trans rfl, (cell_of_row _ _ 3 _ _ _ hj).trans rfl, (cell_of_row _ _ 4 _ _ _ hj).trans rfl⟩, ⟨(cell_of_row _ _ 0 _ _ _ hk).trans rfl, (cell_of_row _ _ 1 _ _ _ hk).trans rfl, (cell_of_row _ _ 2 _ _ _ hk).trans rfl, (cell_of_row _ _ 3 _ _ _ hk).trans rfl, (cell_of_row _ _ 4 _ _ _ hk).trans rfl⟩, ⟨(cell_of_row _ _ 0 _ _ _ hl).trans rfl, (cell_of_row _ _ 1 _ _ _ hl).trans rfl, (cell_of_row _ _ 2 _ _ _ hl).trans rfl, (cell_of_row _ _ 3 _ _ _ hl).trans rfl, (cell_of_row _ _ 4 _ _ _ hl).trans rfl⟩, hbw⟩))
  have HB2 := Lib.hid (alloc_known3 (Below.refl (((w.alloc (.cells #[.int .i64 ka, .string pa, .string na, .slice x1 xn1 xc1, .slice x2 xn2 xc2] 31)).alloc (.cells #[.int .i64 kb, .string pb, .string nb, .slice y1 yn1 yc1, .slice y2 yn2 yc2] 31)).alloc (.cells #[.int .i64 kc, .string pc, .string nc, .slice z1 zn1 zc1, .slice z2 zn2 zc2] 31)).heap.size (((w.alloc (.cells #[.int .i64 ka, .string pa, .string na, .slice x1 xn1 xc1, .slice x2 xn2 xc2] 31)).alloc (.cells #[.int .i64 kb, .string pb, .string nb, .slice y1 yn1 yc1, .slice y2 yn2 yc2] 31)).alloc (.cells #[.int .i64 kc, .string pc, .string nc, .slice z1 zn1 zc1, .slice z2 zn2 zc2] 31)))).2.2.2
  have hta' := lies_head hta
  have htl := hta.le (Nat.le_succ D)
  have HU := Lib.hid (fun (W : World) (hb : Below w.heap.size w W) => units_some d W v us (h.mono (LiesU.below hb d) hb))
  have HFI := Lib.hid (fun W (hb : Below w.heap.size w W) => fields_some d W vv vars (hv.mono (LiesF.below hb d) hb))
  have HGR := Lib.hid (fun W (hb : Below w.heap.size w W) => great_any D (W.alloc (.cells #[.int .i64 ka, .string pa, .string na, .slice x1 xn1 xc1, .slice x2 xn2 xc2, .int .i64 kb, .string pb, .string nb, .slice y1 yn1 yc1, .slice y2 yn2 yc2, .int .i64 kc, .string pc, .string nc, .slice z1 zn1 zc1, .slice z2 zn2 zc2] 31)) (.slice (some ⟨W.heap.size, 0, none⟩) 3 3) [ta, tb, tc] (row_three (heap_alloc_new W _) (Lies.below (hb.alloc hb.size _) _ _ _ hta) (Lies.below (hb.alloc hb.size _) _ _ _ htb) (Lies.below (hb.alloc hb.size _) _ _ _ htc)))
  have HAA := Lib.hid (fun W (hb : Below w.heap.size w W) => fits32_any d D w W v vv us vars ka ka pa na pa na x1 x2 x1 x2 xn1 xc1 xn2 xc2 xn1 xc1 xn2 xc2 ta ta h hv hta hta hb hbd hst)
  have HAB := Lib.hid (fun W (hb : Below w.heap.size w W) => fits32_any d D w W v vv us vars ka kb pa na pb nb x1 x2 y1 y2 xn1 xc1 xn2 xc2 yn1 yc1 yn2 yc2 ta tb h hv hta htb hb hbd hst)
  have HBC := Lib.hid (fun W (hb : Below w.heap.size w W) => fits32_any d D w W v vv us vars kb kc pb nb pc nc y1 y2 z1 z2 yn1 yc1 yn2 yc2 zn1 zc1 zn2 zc2 tb tc h hv htb htc hb hbd hst)
  have HAC := Lib.hid (fun W (hb : Below w.heap.size w W) => fits32_any d D w W v vv us vars ka kc pa na pc nc x1 x2 z1 z2 xn1 xc1 xn2 xc2 zn1 zc1 zn2 zc2 ta tc h hv hta htc hb hbd hst)
  have HNA := Lib.hid (fun W (hb : Below w.heap.size w W) => fits32_any d (D + 1) w W v vv us vars 4 ka ⟨#[]⟩ ⟨#[]⟩ pa na none none x1 x2 0 0 0 0 xn1 xc1 xn2 xc2 (.mk 4 ⟨#[]⟩ ⟨#[]⟩ [] []) ta h hv (four_lies w D) htl hb hbd hst)
  have HSBC := Lib.hid (fun W (hb : Below w.heap.size w W) => same_any D D W _ _ tb tc (Lies.below hb _ _ _ htb) (Lies.below hb _ _ _ htc))
  have HSAB := Lib.hid (fun W (hb : Below w.heap.size w W) => same_any D D W _ _ ta tb (Lies.below hb _ _ _ hta) (Lies.below hb _ _ _ htb))
  rw [sameT_refl, fits_self] at HAA
  rw [fits_nil, lies_nil hta] at HNA
  have HIMP := Lib.hid (fun (h4 : ¬ ka = 4) (h8 : kb = 8) (h8' : kc = 8) (s1 : fitsB us vars ka pa na kb pb nb (sameT ta tb) = true) (s2 : fitsB us vars kb pb nb kc pc nc (sameT tb tc) = true) (s4 : sameT tb tc = false) (s5 : sameT ta tb = false) => (show fitsB us vars ka pa na kc pc nc (sameT ta tc) = true from by
    subst h8 h8'
    rw [s5] at s1
    rw [s4] at s2
    exact fits_through us vars ka pa na pb nb pc nc _ h4 s1 s2))
  generalize fitsB us vars ka pa na kb pb nb (sameT ta tb) = fAB at HAB HIMP
  generalize fitsB us vars kb pb nb kc pc nc (sameT tb tc) = fBC at HBC HIMP
  generalize fitsB us vars ka pa na kc pc nc (sameT ta tc) = fAC at HAC HIMP
  generalize sameT tb tc = sBC at HSBC HIMP
  generalize sameT ta tb = sAB at HSAB HIMP
  obtain ⟨av, cv, rfl, _⟩ := h.form
  obtain ⟨bv, ev, rfl, _⟩ := hv.form
  clear h hv hta htb htc hbd hst htl hta'
  cases hg : greatB [ta, tb, tc]
  all_goals
    have HGB := Lib.hid hg
    clear hg
    go_enter Try.func10, Try.ntmps10
    go_wp2_with (first | (go_at_call 24; refine (HU.out _ HB2.out).mono ?_; rintro e w1 ⟨⟨b, rfl⟩, hb1⟩; refine Hid.out ?_))
    refine Lib.hid ?_
    have HNw1 := Lib.hid hb1
    clear hb1
    obtain ⟨⟨p0, p1, p2, p3, p4⟩, ⟨q0, q1, q2, q3, q4⟩, ⟨r0, r1, r2, r3, r4⟩, hbw⟩ := HBX.out w1 HNw1.out
    have HBw1 := Lib.hid hbw
    clear hbw
    cases b
    · go_wp2_with (first | (go_at_call 28; refine (HFI.out w1 HBw1.out).mono ?_; rintro e w2 ⟨⟨b, rfl⟩, hb2⟩; refine Hid.out ?_))
      refine Lib.hid ?_
      have HNw2 := Lib.hid (HNw1.out.trans (hb2.mono HNw1.out.size))
      clear p0 p1 p2 p3 p4 q0 q1 q2 q3 q4 r0 r1 r2 r3 r4 hb2
      obtain ⟨⟨p0, p1, p2, p3, p4⟩, ⟨q0, q1, q2, q3, q4⟩, ⟨r0, r1, r2, r3, r4⟩, hbw⟩ := HBX.out w2 HNw2.out
      have HBw2 := Lib.hid hbw
      clear hbw
      cases b
      · go_wp2_with (first | (go_at_call 12; refine (HGR.out w2 HBw2.out).mono ?_; rintro e w3 ⟨rfl, hb3⟩; rw [HGB.out]; refine Hid.out ?_))
        refine Lib.hid ?_
        have HNw3 := Lib.hid ((HNw2.out.alloc HNw2.out.size _).trans (hb3.mono (HNw2.out.alloc HNw2.out.size _).size))
        clear p0 p1 p2 p3 p4 q0 q1 q2 q3 q4 r0 r1 r2 r3 r4 hb3
        obtain ⟨⟨p0, p1, p2, p3, p4⟩, ⟨q0, q1, q2, q3, q4⟩, ⟨r0, r1, r2, r3, r4⟩, hbw⟩ := HBX.out w3 HNw3.out
        have HBw3 := Lib.hid hbw
        clear hbw
        first
        | (go_wp2_with (first | (go_at_call 13; refine (awake_any _).mono ?_; rintro e w19 ⟨rfl, hb19⟩; have HB19 := Lib.hid (HBw3.out.trans (hb19.mono HBw3.out.size)); clear hb19)); go_ret; exact ⟨rfl, HB19.out⟩)
        | (
          go_upto_region 3 with fail
          go_cut [11] (fun u1 wc => u1 = .bool true ∧ Below w3.heap.size w3 wc)
          case first =>
            have BB := fun dd os => HBw3.out.trans ((below_regrown w3 dd os).mono HBw3.out.size)
            have c4 := fun dd os => Calls.regrown_of (HAA.out (grow (redrawn w3 dd) os) (BB dd os))
            have k0 := cell_regrown (show w3.cell? ⟨w.heap.size, 0, none⟩ = some (.int .i64 ka) from p0)
            have k1 := cell_regrown (show w3.cell? ⟨w.heap.size, 1, none⟩ = some (.string pa) from p1)
            have k2 := cell_regrown (show w3.cell? ⟨w.heap.size, 2, none⟩ = some (.string na) from p2)
            have k3 := cell_regrown (show w3.cell? ⟨w.heap.size, 3, none⟩ = some (.slice x1 xn1 xc1) from p3)
            have k4 := cell_regrown (show w3.cell? ⟨w.heap.size, 4, none⟩ = some (.slice x2 xn2 xc2) from p4)
            clear BB HAA HNA HAB HBC HAC HSBC HSAB HIMP HU HFI HGR HBX p0 p1 p2 p3 p4 q0 q1 q2 q3 q4 r0 r1 r2 r3 r4 HB2
            cases h0 : (ka != 0)
            all_goals
              rw [h0] at c4
              go_wp2_with (refine wp_region_quiet_below (by kernel_rfl) (by kernel_rfl) ?_; go_big_quiet_step (fail); go_big_quiet_step (fail); go_big_quiet_step (fail); go_big_quiet_step (fail); go_big_quiet_step (exact c4 _ _); go_big_quiet_step (fail); go_big_quiet_step (fail); go_big_quiet_step (fail); go_big_quiet_step (fail); go_big_quiet_step (fail); refine wpQuiet_nil ?_; intro _ hw'; obtain ⟨⟨dq, osq⟩, hw''⟩ := hw'; subst hw'')
              go_meet
              case rel => exact ⟨rfl, below_regrown _ dq osq⟩
          case rest =>
            obtain ⟨wm, hwm⟩ : ∃ x : World, x = wc := ⟨_, rfl⟩
            subst hwm
            obtain ⟨rfl, hbc⟩ := hcut
            have HNwm := Lib.hid (HNw3.out.trans (hbc.mono HNw3.out.size))
            clear hbc p0 p1 p2 p3 p4 q0 q1 q2 q3 q4 r0 r1 r2 r3 r4 HAA
            obtain ⟨⟨p0, p1, p2, p3, p4⟩, ⟨q0, q1, q2, q3, q4⟩, ⟨r0, r1, r2, r3, r4⟩, hbw⟩ := HBX.out wm HNwm.out
            have HBwm := Lib.hid hbw
            clear hbw
            go_upto_region 4 with fail
            go_cut [12] (fun u2 wd => u2 = .bool true ∧ Below wm.heap.size wm wd)
            case first =>
              have BB := fun dd os => HBwm.out.trans ((below_regrown wm dd os).mono HBwm.out.size)
              have c4 := fun dd os => Calls.regrown_of (HNA.out (grow (redrawn wm dd) os) (BB dd os))
              have c19 := fun dd os => Calls.regrown_of (plain33_any (grow (redrawn wm dd) os) ka pa na x1 x2 xn1 xc1 xn2 xc2)
              have k0 := cell_regrown (show wm.cell? ⟨w.heap.size, 0, none⟩ = some (.int .i64 ka) from p0)
              have k1 := cell_regrown (show wm.cell? ⟨w.heap.size, 1, none⟩ = some (.string pa) from p1)
              have k2 := cell_regrown (show wm.cell? ⟨w.heap.size, 2, none⟩ = some (.string na) from p2)
              have k3 := cell_regrown (show wm.cell? ⟨w.heap.size, 3, none⟩ = some (.slice x1 xn1 xc1) from p3)
              have k4 := cell_regrown (show wm.cell? ⟨w.heap.size, 4, none⟩ = some (.slice x2 xn2 xc2) from p4)
              generalize plainB pa na xn1 xn2 = pl at c4 c19
              clear BB HNA HAB HBC HAC HSBC HSAB HIMP HU HFI HGR HBX p0 p1 p2 p3 p4 q0 q1 q2 q3 q4 r0 r1 r2 r3 r4 HB2
              by_cases h4 : ka = 4
              · subst h4
                cases pl
                all_goals
                  go_wp2_with (refine wp_region_quiet_below (by kernel_rfl) (by kernel_rfl) ?_; go_big_quiet_step (fail); go_big_quiet_step (fail); go_big_quiet_step (fail); go_big_quiet_step (fail); go_big_quiet_step (exact c4 _ _); go_big_quiet_step (fail); go_big_quiet_step (fail); go_big_quiet_step (fail); go_big_quiet_step (fail); go_big_quiet_step (fail); go_big_quiet_step (fail); go_big_quiet_step (fail); go_big_quiet_step (fail); go_big_quiet_step (fail); go_big_quiet_step (fail); go_big_quiet_step (fail); go_big_quiet_step (fail); go_big_quiet_step (fail); go_big_quiet_step (fail); go_big_quiet_step (exact c19 _ _); go_big_quiet_step (fail); go_big_quiet_step (fail); go_big_quiet_step (fail); go_big_quiet_step (fail); refine wpQuiet_nil ?_; intro _ hw'; obtain ⟨⟨dq, osq⟩, hw''⟩ := hw'; subst hw'')
                  go_meet
                  case rel => exact ⟨rfl, below_regrown _ dq osq⟩
              · have e4 : (ka == 4) = false := by simpa using h4
                have e4' : (ka != 4) = true := by simpa using h4
                by_cases h4l : 4 ≤ ka
                · by_cases h8l : ka ≤ 8
                  · have e58 : (!(ka == 0) && (((ka == 4) && pl) || ((ka == 5) || (ka == 6) || (ka == 7) || (ka == 8)))) = true := by
                      have : ka = 5 ∨ ka = 6 ∨ ka = 7 ∨ ka = 8 := by omega
                      rcases this with rfl | rfl | rfl | rfl <;> simp
                    rw [e58] at c4
                    clear e58 h4
                    go_wp2_with (refine wp_region_quiet_below (by kernel_rfl) (by kernel_rfl) ?_; go_big_quiet_step (fail); go_big_quiet_step (fail); go_big_quiet_step (fail); go_big_quiet_step (fail); go_big_quiet_step (exact c4 _ _); go_big_quiet_step (fail); go_big_quiet_step (fail); go_big_quiet_step (fail); go_big_quiet_step (fail); go_big_quiet_step (fail); go_big_quiet_step (fail); go_big_quiet_step (fail); go_big_quiet_step (fail); go_big_quiet_step (fail); go_big_quiet_step (fail); go_big_quiet_step (fail); go_big_quiet_step (fail); go_big_quiet_step (fail); go_big_quiet_step (fail); go_big_quiet_step (fail); go_big_quiet_step (fail); go_big_quiet_step (fail); go_big_quiet_step (fail); go_big_quiet_step (fail); refine wpQuiet_nil ?_; intro _ hw'; obtain ⟨⟨dq, osq⟩, hw''⟩ := hw'; subst hw'')
                    go_meet
                    case rel => exact ⟨rfl, below_regrown _ dq osq⟩
                  · have e58 : (!(ka == 0) && (((ka == 4) && pl) || ((ka == 5) || (ka == 6) || (ka == 7) || (ka == 8)))) = false := by
                      rw [e4, show (ka == 5) = false by simp; omega, show (ka == 6) = false by simp; omega, show (ka == 7) = false by simp; omega, show (ka == 8) = false by simp; omega]
                      simp
                    rw [e58] at c4
                    clear e58 h4
                    go_wp2_with (refine wp_region_quiet_below (by kernel_rfl) (by kernel_rfl) ?_; go_big_quiet_step (fail); go_big_quiet_step (fail); go_big_quiet_step (fail); go_big_quiet_step (fail); go_big_quiet_step (exact c4 _ _); go_big_quiet_step (fail); go_big_quiet_step (fail); go_big_quiet_step (fail); go_big_quiet_step (fail); go_big_quiet_step (fail); go_big_quiet_step (fail); go_big_quiet_step (fail); go_big_quiet_step (fail); go_big_quiet_step (fail); go_big_quiet_step (fail); go_big_quiet_step (fail); go_big_quiet_step (fail); go_big_quiet_step (fail); go_big_quiet_step (fail); go_big_quiet_step (fail); go_big_quiet_step (fail); go_big_quiet_step (fail); go_big_quiet_step (fail); go_big_quiet_step (fail); refine wpQuiet_nil ?_; intro _ hw'; obtain ⟨⟨dq, osq⟩, hw''⟩ := hw'; subst hw'')
                    go_meet
                    case rel => exact ⟨rfl, below_regrown _ dq osq⟩
                · have e58 : (!(ka == 0) && (((ka == 4) && pl) || ((ka == 5) || (ka == 6) || (ka == 7) || (ka == 8)))) = false := by
                    rw [e4, show (ka == 5) = false by simp; omega, show (ka == 6) = false by simp; omega, show (ka == 7) = false by simp; omega, show (ka == 8) = false by simp; omega]
                    simp
                  rw [e58] at c4
                  clear e58 h4
                  go_wp2_with (refine wp_region_quiet_below (by kernel_rfl) (by kernel_rfl) ?_; go_big_quiet_step (fail); go_big_quiet_step (fail); go_big_quiet_step (fail); go_big_quiet_step (fail); go_big_quiet_step (exact c4 _ _); go_big_quiet_step (fail); go_big_quiet_step (fail); go_big_quiet_step (fail); go_big_quiet_step (fail); go_big_quiet_step (fail); go_big_quiet_step (fail); go_big_quiet_step (fail); go_big_quiet_step (fail); go_big_quiet_step (fail); go_big_quiet_step (fail); go_big_quiet_step (fail); go_big_quiet_step (fail); go_big_quiet_step (fail); go_big_quiet_step (fail); go_big_quiet_step (fail); go_big_quiet_step (fail); go_big_quiet_step (fail); go_big_quiet_step (fail); go_big_quiet_step (fail); refine wpQuiet_nil ?_; intro _ hw'; obtain ⟨⟨dq, osq⟩, hw''⟩ := hw'; subst hw'')
                  go_meet
                  case rel => exact ⟨rfl, below_regrown _ dq osq⟩
            case rest =>
              obtain ⟨rfl, hbc⟩ := hcut
              have HNwc := Lib.hid (HNwm.out.trans (hbc.mono HNwm.out.size))
              clear hbc p0 p1 p2 p3 p4 q0 q1 q2 q3 q4 r0 r1 r2 r3 r4 HNA
              obtain ⟨⟨p0, p1, p2, p3, p4⟩, ⟨q0, q1, q2, q3, q4⟩, ⟨r0, r1, r2, r3, r4⟩, hbw⟩ := HBX.out wc HNwc.out
              have HBwc := Lib.hid hbw
              clear hbw
              by_cases hb8 : kb = 8
              · by_cases hc8 : kc = 8
                · by_cases ha4 : ka = 4
                  · subst hb8 hc8 ha4
                    go_wp2_with (first | (go_at_call 13; refine (awake_any _).mono ?_; rintro e w19 ⟨rfl, hb19⟩; have HB19 := Lib.hid (HBwc.out.trans (hb19.mono HBwc.out.size)); clear hb19))
                    go_ret
                    exact ⟨rfl, HB19.out⟩
                  · have hn4 := ha4
                    have e4 : (ka == 4) = false := by simpa using ha4
                    clear ha4
                    subst hb8 hc8
                    cases fAB with
                    | true =>
                      go_wp2_with (first | (go_at_call 32; refine (HAB.out wc HBwc.out).mono ?_; rintro e v0 ⟨rfl, hbn⟩; refine Hid.out ?_))
                      refine Lib.hid ?_
                      have HNv0 := Lib.hid (HNwc.out.trans (hbn.mono HNwc.out.size))
                      clear hbn p0 p1 p2 p3 p4 q0 q1 q2 q3 q4 r0 r1 r2 r3 r4
                      obtain ⟨⟨p0, p1, p2, p3, p4⟩, ⟨q0, q1, q2, q3, q4⟩, ⟨r0, r1, r2, r3, r4⟩, hbw⟩ := HBX.out v0 HNv0.out
                      have HBv0 := Lib.hid hbw
                      clear hbw
                      cases fBC with
                      | true =>
                        go_wp2_with (first | (go_at_call 32; refine (HBC.out v0 HBv0.out).mono ?_; rintro e v1 ⟨rfl, hbn⟩; refine Hid.out ?_))
                        refine Lib.hid ?_
                        have HNv1 := Lib.hid (HNv0.out.trans (hbn.mono HNv0.out.size))
                        clear hbn p0 p1 p2 p3 p4 q0 q1 q2 q3 q4 r0 r1 r2 r3 r4
                        obtain ⟨⟨p0, p1, p2, p3, p4⟩, ⟨q0, q1, q2, q3, q4⟩, ⟨r0, r1, r2, r3, r4⟩, hbw⟩ := HBX.out v1 HNv1.out
                        have HBv1 := Lib.hid hbw
                        clear hbw
                        cases fAC with
                        | true =>
                          go_wp2_with (first | (go_at_call 32; refine (HAC.out v1 HBv1.out).mono ?_; rintro e v2 ⟨rfl, hbn⟩; refine Hid.out ?_))
                          refine Lib.hid ?_
                          have HNv2 := Lib.hid (HNv1.out.trans (hbn.mono HNv1.out.size))
                          clear hbn p0 p1 p2 p3 p4 q0 q1 q2 q3 q4 r0 r1 r2 r3 r4
                          obtain ⟨⟨p0, p1, p2, p3, p4⟩, ⟨q0, q1, q2, q3, q4⟩, ⟨r0, r1, r2, r3, r4⟩, hbw⟩ := HBX.out v2 HNv2.out
                          have HBv2 := Lib.hid hbw
                          clear hbw
                          go_wp2_with (first | (go_at_call 13; refine (awake_any _).mono ?_; rintro e w19 ⟨rfl, hb19⟩; have HB19 := Lib.hid (HBv2.out.trans (hb19.mono HBv2.out.size)); clear hb19))
                          go_ret
                          exact ⟨rfl, HB19.out⟩
                        | false =>
                          go_wp2_with (first | (go_at_call 32; refine (HAC.out v1 HBv1.out).mono ?_; rintro e v2 ⟨rfl, hbn⟩; refine Hid.out ?_))
                          refine Lib.hid ?_
                          have HNv2 := Lib.hid (HNv1.out.trans (hbn.mono HNv1.out.size))
                          clear hbn p0 p1 p2 p3 p4 q0 q1 q2 q3 q4 r0 r1 r2 r3 r4
                          obtain ⟨⟨p0, p1, p2, p3, p4⟩, ⟨q0, q1, q2, q3, q4⟩, ⟨r0, r1, r2, r3, r4⟩, hbw⟩ := HBX.out v2 HNv2.out
                          have HBv2 := Lib.hid hbw
                          clear hbw
                          cases sBC with
                          | true =>
                            go_wp2_with (first | (go_at_call 21; refine (HSBC.out v2 HBv2.out).mono ?_; rintro e v3 ⟨rfl, hbn⟩; refine Hid.out ?_))
                            refine Lib.hid ?_
                            have HNv3 := Lib.hid (HNv2.out.trans (hbn.mono HNv2.out.size))
                            clear hbn p0 p1 p2 p3 p4 q0 q1 q2 q3 q4 r0 r1 r2 r3 r4
                            obtain ⟨⟨p0, p1, p2, p3, p4⟩, ⟨q0, q1, q2, q3, q4⟩, ⟨r0, r1, r2, r3, r4⟩, hbw⟩ := HBX.out v3 HNv3.out
                            have HBv3 := Lib.hid hbw
                            clear hbw
                            go_wp2_with (first | (go_at_call 13; refine (awake_any _).mono ?_; rintro e w19 ⟨rfl, hb19⟩; have HB19 := Lib.hid (HBv3.out.trans (hb19.mono HBv3.out.size)); clear hb19))
                            go_ret
                            exact ⟨rfl, HB19.out⟩
                          | false =>
                            go_wp2_with (first | (go_at_call 21; refine (HSBC.out v2 HBv2.out).mono ?_; rintro e v3 ⟨rfl, hbn⟩; refine Hid.out ?_))
                            refine Lib.hid ?_
                            have HNv3 := Lib.hid (HNv2.out.trans (hbn.mono HNv2.out.size))
                            clear hbn p0 p1 p2 p3 p4 q0 q1 q2 q3 q4 r0 r1 r2 r3 r4
                            obtain ⟨⟨p0, p1, p2, p3, p4⟩, ⟨q0, q1, q2, q3, q4⟩, ⟨r0, r1, r2, r3, r4⟩, hbw⟩ := HBX.out v3 HNv3.out
                            have HBv3 := Lib.hid hbw
                            clear hbw
                            cases sAB with
                            | true =>
                              go_wp2_with (first | (go_at_call 21; refine (HSAB.out v3 HBv3.out).mono ?_; rintro e v4 ⟨rfl, hbn⟩; refine Hid.out ?_))
                              refine Lib.hid ?_
                              have HNv4 := Lib.hid (HNv3.out.trans (hbn.mono HNv3.out.size))
                              clear hbn p0 p1 p2 p3 p4 q0 q1 q2 q3 q4 r0 r1 r2 r3 r4
                              obtain ⟨⟨p0, p1, p2, p3, p4⟩, ⟨q0, q1, q2, q3, q4⟩, ⟨r0, r1, r2, r3, r4⟩, hbw⟩ := HBX.out v4 HNv4.out
                              have HBv4 := Lib.hid hbw
                              clear hbw
                              go_wp2_with (first | (go_at_call 13; refine (awake_any _).mono ?_; rintro e w19 ⟨rfl, hb19⟩; have HB19 := Lib.hid (HBv4.out.trans (hb19.mono HBv4.out.size)); clear hb19))
                              go_ret
                              exact ⟨rfl, HB19.out⟩
                            | false =>
                              go_wp2_with (first | (go_at_call 21; refine (HSAB.out v3 HBv3.out).mono ?_; rintro e v4 ⟨rfl, hbn⟩; refine Hid.out ?_))
                              refine Lib.hid ?_
                              have HNv4 := Lib.hid (HNv3.out.trans (hbn.mono HNv3.out.size))
                              clear hbn p0 p1 p2 p3 p4 q0 q1 q2 q3 q4 r0 r1 r2 r3 r4
                              obtain ⟨⟨p0, p1, p2, p3, p4⟩, ⟨q0, q1, q2, q3, q4⟩, ⟨r0, r1, r2, r3, r4⟩, hbw⟩ := HBX.out v4 HNv4.out
                              have HBv4 := Lib.hid hbw
                              clear hbw
                              exact absurd HIMP.out (by simp [hn4])
                      | false =>
                        go_wp2_with (first | (go_at_call 32; refine (HBC.out v0 HBv0.out).mono ?_; rintro e v1 ⟨rfl, hbn⟩; refine Hid.out ?_))
                        refine Lib.hid ?_
                        have HNv1 := Lib.hid (HNv0.out.trans (hbn.mono HNv0.out.size))
                        clear hbn p0 p1 p2 p3 p4 q0 q1 q2 q3 q4 r0 r1 r2 r3 r4
                        obtain ⟨⟨p0, p1, p2, p3, p4⟩, ⟨q0, q1, q2, q3, q4⟩, ⟨r0, r1, r2, r3, r4⟩, hbw⟩ := HBX.out v1 HNv1.out
                        have HBv1 := Lib.hid hbw
                        clear hbw
                        go_wp2_with (first | (go_at_call 13; refine (awake_any _).mono ?_; rintro e w19 ⟨rfl, hb19⟩; have HB19 := Lib.hid (HBv1.out.trans (hb19.mono HBv1.out.size)); clear hb19))
                        go_ret
                        exact ⟨rfl, HB19.out⟩
                    | false =>
                      go_wp2_with (first | (go_at_call 32; refine (HAB.out wc HBwc.out).mono ?_; rintro e v0 ⟨rfl, hbn⟩; refine Hid.out ?_))
                      refine Lib.hid ?_
                      have HNv0 := Lib.hid (HNwc.out.trans (hbn.mono HNwc.out.size))
                      clear hbn p0 p1 p2 p3 p4 q0 q1 q2 q3 q4 r0 r1 r2 r3 r4
                      obtain ⟨⟨p0, p1, p2, p3, p4⟩, ⟨q0, q1, q2, q3, q4⟩, ⟨r0, r1, r2, r3, r4⟩, hbw⟩ := HBX.out v0 HNv0.out
                      have HBv0 := Lib.hid hbw
                      clear hbw
                      go_wp2_with (first | (go_at_call 13; refine (awake_any _).mono ?_; rintro e w19 ⟨rfl, hb19⟩; have HB19 := Lib.hid (HBv0.out.trans (hb19.mono HBv0.out.size)); clear hb19))
                      go_ret
                      exact ⟨rfl, HB19.out⟩
                · subst hb8
                  have e8 : (kc != 8) = true := by simpa using hc8
                  clear hc8
                  go_wp2_with (first | (go_at_call 13; refine (awake_any _).mono ?_; rintro e w19 ⟨rfl, hb19⟩; have HB19 := Lib.hid (HBwc.out.trans (hb19.mono HBwc.out.size)); clear hb19))
                  go_ret
                  exact ⟨rfl, HB19.out⟩
              · have e8 : (kb != 8) = true := by simpa using hb8
                clear hb8
                go_wp2_with (first | (go_at_call 13; refine (awake_any _).mono ?_; rintro e w19 ⟨rfl, hb19⟩; have HB19 := Lib.hid (HBwc.out.trans (hb19.mono HBwc.out.size)); clear hb19))
                go_ret
                exact ⟨rfl, HB19.out⟩)
      · go_wp2_with (first | (go_at_call 13; refine (awake_any _).mono ?_; rintro e w19 ⟨rfl, hb19⟩; have HB19 := Lib.hid (HBw2.out.trans (hb19.mono HBw2.out.size)); clear hb19))
        go_ret
        exact ⟨rfl, HB19.out⟩
    · go_wp2_with (first | (go_at_call 13; refine (awake_any _).mono ?_; rintro e w19 ⟨rfl, hb19⟩; have HB19 := Lib.hid (HBw1.out.trans (hb19.mono HBw1.out.size)); clear hb19))
      go_ret
      exact ⟨rfl, HB19.out⟩
theorem KindsThrough_any (w : World) (D0 D1 D2 D3 D4 : Nat) (v0 v1 v2 v3 v4 : Value) (us : List Unt) (vars : List Fld) (t tt ttt : Ty) (h : RowG 4 (LiesU w D0) w v0 us) (hv : RowG 6 (LiesF w D1) w v1 vars) (ht : Lies w D2 v2 t) (htt : Lies w D3 v3 tt) (httt : Lies w D4 v4 ttt) (hb : sumM mU us ≤ 31457280) :
    Calls Try.prog 10 #[v0, v1, v2, v3, v4] w fun e w' => e = .returned (.bool true) ∧ Below w.heap.size w w' := by
  obtain ⟨x0, x1, x2, x3, x4, rfl⟩ := lies_five ht
  obtain ⟨_, _, _, _, _, _, _, _, _, rfl, rfl, rfl, rfl, rfl⟩ := lies_form ht
  obtain ⟨y0, y1, y2, y3, y4, rfl⟩ := lies_five htt
  obtain ⟨_, _, _, _, _, _, _, _, _, rfl, rfl, rfl, rfl, rfl⟩ := lies_form htt
  obtain ⟨z0, z1, z2, z3, z4, rfl⟩ := lies_five httt
  obtain ⟨_, _, _, _, _, _, _, _, _, rfl, rfl, rfl, rfl, rfl⟩ := lies_form httt
  refine KindsThrough_x (D0 + D1) (D2 + D3 + D4) w v0 v1 us vars _ _ _ _ _ _ _ _ _ _ _ _ _ _ _ _ _ _ _ _ _ _ _ _ _ _ _ t tt ttt (h.mono (fun _ _ h => h.le (by omega)) (Below.refl _ _)) (hv.mono (fun _ _ h => h.le (by omega)) (Below.refl _ _)) (ht.le (by omega)) (htt.le (by omega)) (httt.le (by omega)) (fun k p n => ?_) (fun k p n x hx => ?_)
  · have h1 := baseL_le us k p n
    have h2 := sumM_len mF (fun x => by unfold mF; have := bulk_pos x.ty; omega) (baseL us k p n)
    omega
  · have h1 := baseL_le us k p n
    have h2 := sumM_mem mF _ x hx
    have h3 := siz_bulk x.ty
    have e1 : mF x = bulkT x.ty + 60 := rfl
    omega
end Go.Proofs.Ytcelpmojhjnggaa
