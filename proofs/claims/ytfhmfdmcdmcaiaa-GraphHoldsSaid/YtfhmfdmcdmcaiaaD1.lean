/- The walk of GraphHolds. -/
import Derived.Test.YtfhmfdmcdmcaiaaD0
import Derived.Test.YtfhmfdmcdmcaiaaC4
namespace Go.Proofs.Ytfhmfdmcdmcaiaa
open Go Go.RowKit Go.Sort
set_option maxHeartbeats 4000000
set_option maxRecDepth 100000

theorem drewN_below {B : Nat} {a w : World} {n : Nat} (h : Below B a w) : Below B a (w.drewN n) := ⟨h.os, h.tape, h.output, h.size, h.block⟩
theorem IntR.cell {w : World} {a : Option Addr} {n c : Nat} {l : List Nat} (h : IntR w (.slice a n c) (l.map Int.ofNat)) (i x : Nat) (hx : l[i]? = some x) : ∃ b, a = some ⟨b, 0, none⟩ ∧ w.cell? ⟨b, i, none⟩ = some (iv x) := by
  obtain ⟨a', c', h1, h2, h3, h4⟩ := h
  simp only [Value.slice.injEq] at h1
  obtain ⟨rfl, _, rfl⟩ := h1
  rcases h4 with h4 | ⟨b, cur, rfl, hg, hc⟩
  · have : l = [] := by simpa using h4
    rw [this] at hx; simp at hx
  · exact ⟨b, rfl, cell_of hg (hc i (x : Int) (by rw [List.getElem?_map, hx]; rfl))⟩
theorem GraphHolds_any (vn : Value) (nm : List ByteArray) (vd : Value) (needs : List (List ByteArray)) (w0 : World) (hn0 : StrRow w0 vn nm) (hd0 : NStr w0 vd needs) :
    Calls Try.prog 4 #[vn, vd] w0 fun e w' => e = .returned (.bool true) ∧ Below w0.heap.size w0 w' := by
  have hn : ∀ w, Below w0.heap.size w0 w → StrRow w vn nm := fun w hw => hn0.below hw
  have hd : ∀ w, Below w0.heap.size w0 w → NStr w vd needs := fun w hw => hd0.below hw
  have HH := Lib.hid (heavy8 w0 vn vd nm needs hn0 hd0)
  have HN0 := Lib.hid hn0
  have HD0 := Lib.hid hd0
  clear hn0 hd0
  obtain ⟨hv, hhv⟩ : ∃ hv, heavyP nm needs = hv := ⟨_, rfl⟩
  have HHV := Lib.hid hhv
  rw [hhv] at HH
  clear hhv
  cases hv with
  | true =>
    clear hn hd
    go_enter Try.func4, Try.ntmps4
    go_wp2_with (first | (go_at_call 8; refine HH.out.mono ?_; rintro e w6 ⟨rfl, hw6⟩; obtain rfl := hw6.symm) | (go_at_call 9; refine (awake9 _).mono ?_; rintro e w7 ⟨rfl, hb7⟩; have HB7 := Lib.hid hb7; clear hb7))
    go_ret
    exact ⟨rfl, HB7.out⟩
  | false =>
    obtain ⟨l1, l2, l3⟩ := light HHV.out
    have HO := Lib.hid (order10 w0 vn vd nm needs (hn _ (Below.refl _ _)) (hd _ (Below.refl _ _)) (fun x hx => by have := l3 x hx; omega) (by omega))
    have HPL := Lib.hid (@holds_plain nm needs)
    have HER := Lib.hid (@order_err nm needs)
    have HL3 := Lib.hid l3
    clear hn hd l3
    unfold OrderPost at HO
    generalize orderR nm needs = r at HO HPL HER
    obtain ⟨out, at_, er⟩ := r
    dsimp only at HO HPL HER
    by_cases her : er = 0
    · subst her
      have HP := Lib.hid (HPL.out rfl)
      clear HPL HER
      have hlen := HP.out.len
      rw [hlen] at HO
      obtain ⟨an, cn, rfl, hn1, hn2, hn3⟩ := HN0.out
      obtain ⟨ad, cd, rfl, hd1, hd2, hd3⟩ := HD0.out
      have HN3 := Lib.hid hn3
      have HD3 := Lib.hid hd3
      unfold maxLen at hn2 hd2
      clear hn3 hd3 hlen
      go_enter Try.func4, Try.ntmps4
      go_wp2_with (first | (go_at_call 8; refine HH.out.mono ?_; rintro e w6 ⟨rfl, hw6⟩; obtain rfl := hw6.symm) | (go_at_call 10; refine HO.out.mono ?_; rintro e w1 ⟨hb1, vo, rfl, ho1⟩; have HB1 := Lib.hid hb1; have HI1 := Lib.hid (ints_iv (l := out) (by rw [HP.out.len]; exact ho1)); obtain ⟨ao, co, rfl, _, _⟩ := HI1.out.shape; rw [List.length_map, HP.out.len] at HI1; rw [List.length_map, HP.out.len]; clear hb1 ho1) | (go_at_call 13; refine (num13 _ _).mono ?_; rintro e w6 ⟨rfl, hw6⟩; obtain rfl := hw6.symm))
      go_loopw [8] (fun v8 wr => ∃ (i : Nat), i ≤ nm.length ∧ v8 = iv i ∧ Hid (Below w0.heap.size w0 wr ∧ IntR wr (.slice ao nm.length co) (out.map Int.ofNat))) (fun v8 _ => nm.length - (intOf v8).toNat)
      case atStart => exact ⟨0, by omega, rfl, Lib.hid ⟨HB1.out, HI1.out⟩⟩
      case round =>
        clear HI1 HB1 HO HH
        obtain ⟨i, hi, rfl, HW⟩ := hrel
        by_cases hil : i < nm.length
        · have hi1 : (i : Int) < (nm.length : Int) := by omega
          obtain ⟨x, hx⟩ : ∃ x, out[i]? = some x := ⟨_, List.getElem?_eq_getElem (by rw [HP.out.len]; exact hil)⟩
          obtain ⟨ba, rfl, c0⟩ := HW.out.2.cell i x hx
          have hxl := HP.out.lt x (List.mem_of_getElem? hx)
          have x0 : ¬ (x : Int) < 0 := by omega
          have x1 : ¬ (nm.length : Int) ≤ (x : Int) := by omega
          have HX := Lib.hid hx
          have HXL := Lib.hid hxl
          clear hx hxl
          go_wp2_with fail
          obtain ⟨wo, hwo⟩ : ∃ wo : World, wo = wr := ⟨_, rfl⟩
          subst hwo
          go_loopw [9] (fun v9 wr => ∃ (k : Nat), k ≤ i ∧ v9 = iv k ∧ Hid (Below wo.heap.size wo wr)) (fun v9 _ => i - (intOf v9).toNat)
          case atStart => exact ⟨0, by omega, rfl, Lib.hid (Below.refl _ _)⟩
          case round =>
            obtain ⟨k, hk, rfl, HV⟩ := hrel
            by_cases hkl : k < i
            · have hk1 : (k : Int) < (i : Int) := by omega
              have hk2 : (k : Int) < (nm.length : Int) := by omega
              obtain ⟨y, hy⟩ : ∃ y, out[k]? = some y := ⟨_, List.getElem?_eq_getElem (by rw [HP.out.len]; omega)⟩
              have d0 : wr.cell? ⟨ba, i, none⟩ = some (iv x) := (HV.out.cell (World.block_lt_of_cell? wo _ c0)).trans c0
              obtain ⟨ba', e1, d1⟩ := (HW.out.2.at HV.out).cell k y hy
              simp only [Option.some.injEq, Addr.mk.injEq, and_true] at e1
              obtain rfl := e1
              have hne : ¬ ((y : Int) = (x : Int)) := by
                intro e
                have e2 : y = x := by omega
                have h1 := (List.getElem?_eq_some_iff.1 hy)
                have h2 := (List.getElem?_eq_some_iff.1 HX.out)
                obtain ⟨a1, b1⟩ := h1
                obtain ⟨a2, b2⟩ := h2
                have := (List.getElem_inj HP.out.nd (h₀ := a1) (h₁ := a2)).1 (by rw [b1, b2, e2])
                omega
              clear hy
              go_wp2_with (go_quiet (fail))
              exact ⟨⟨k + 1, by omega, by go_num, Lib.hid (drewN_below HV.out)⟩, by simp [intOf]; omega⟩
            · obtain rfl : k = i := by omega
              have d0 : wr.cell? ⟨ba, k, none⟩ = some (iv x) := (HV.out.cell (World.block_lt_of_cell? wo _ c0)).trans c0
              have HW2 : Hid (Below w0.heap.size w0 wr ∧ IntR wr (.slice (some ⟨ba, 0, none⟩) nm.length co) (out.map Int.ofNat)) := Lib.hid ⟨HW.out.1.trans (HV.out.mono HW.out.1.size), HW.out.2.at HV.out⟩
              clear HW HV c0 hkl
              go_wp2_with fail
              obtain ⟨wp, hwp⟩ : ∃ wp : World, wp = wr := ⟨_, rfl⟩
              subst hwp
              go_loopw [10] (fun v10 wr => ∃ (m : Nat), m ≤ (needOf needs x).length ∧ v10 = iv m ∧ Hid (Below wp.heap.size wp wr)) (fun v10 _ => (needOf needs x).length - (intOf v10).toNat)
              case atStart => exact ⟨0, by omega, rfl, Lib.hid (Below.refl _ _)⟩
              case round =>
                obtain ⟨m, hm, rfl, HV⟩ := hrel
                have f0 : wr.cell? ⟨ba, k, none⟩ = some (iv x) := (HV.out.cell (World.block_lt_of_cell? wp _ d0)).trans d0
                have HV0 := Lib.hid (HW2.out.1.trans (HV.out.mono HW2.out.1.size))
                by_cases hxn : x < needs.length
                · have hxn1 : (x : Int) < (needs.length : Int) := by omega
                  obtain ⟨ss, hss⟩ : ∃ ss, needs[x]? = some ss := ⟨_, List.getElem?_eq_getElem hxn⟩
                  obtain ⟨bd, od, u, rfl, f1, hu⟩ := HD0.out.row x ss hss
                  have hno : needOf needs x = ss := by unfold needOf; rw [List.getD_eq_getElem?_getD, hss]; rfl
                  have HNO := Lib.hid hno
                  rw [hno] at hm
                  have f2 := (HV0.out.cell (World.block_lt_of_cell? w0 _ f1)).trans f1
                  obtain ⟨au, cu, rfl, hu1, hu2, hu3⟩ := hu
                  unfold maxLen at hu2
                  have HU3 := Lib.hid hu3
                  clear hno hss f1 hu3
                  by_cases hml : m < ss.length
                  · have hm1 : (m : Int) < (ss.length : Int) := by omega
                    obtain ⟨s, hs⟩ : ∃ s, ss[m]? = some s := ⟨_, List.getElem?_eq_getElem hml⟩
                    obtain ⟨j0, y0, hj0, hy0, hs0⟩ := HP.out.be k x HX.out s (by rw [HNO.out]; exact List.mem_of_getElem? hs)
                    have HJ0 := Lib.hid (And.intro hj0 (And.intro hy0 hs0))
                    rcases HU3.out with h0 | ⟨bs, os, rfl, hcs⟩
                    · rw [h0] at hs; simp at hs
                    have g0 := hcs m s hs
                    have HSG := Lib.hid g0
                    clear hs hj0 hy0 hs0 hcs g0
                    go_wp2_with fail
                    obtain ⟨wq, hwq⟩ : ∃ wq : World, wq = wr := ⟨_, rfl⟩
                    subst hwq
                    go_loopw [11, 12] (fun v11 v12 wr => ∃ (j : Nat) (b : Bool), j ≤ k ∧ v11 = .bool b ∧ v12 = iv j ∧ Hid (Below wq.heap.size wq wr) ∧ Hid (b = false → j ≤ j0)) (fun _ v12 _ => k - (intOf v12).toNat)
                    case atStart => exact ⟨0, false, by omega, rfl, rfl, Lib.hid (Below.refl _ _), Lib.hid (fun _ => by omega)⟩
                    case round =>
                      obtain ⟨j, b, hj, rfl, rfl, HY, HJ⟩ := hrel
                      by_cases hjl : j < k
                      · have hj1 : (j : Int) < (k : Int) := by omega
                        have hj2 : (j : Int) < (nm.length : Int) := by omega
                        cases b with
                        | true =>
                          go_upto_region 25 with fail
                          refine wp_region_quiet_below (by kernel_rfl) (by kernel_rfl) ?_
                          iterate 22 go_big_quiet_step (fail)
                          refine wpQuiet_nil ?_; intro _ hw'; obtain ⟨⟨dq, osq⟩, hw''⟩ := hw'; subst hw''
                          go_wp2_with fail
                          exact ⟨⟨j + 1, true, by omega, rfl, by go_num, Lib.hid (HY.out.trans ((below_regrown _ dq osq).mono HY.out.size)), Lib.hid (fun e => by cases e)⟩, by simp [intOf]; omega⟩
                        | false =>
                          obtain ⟨y, hy⟩ : ∃ y, out[j]? = some y := ⟨_, List.getElem?_eq_getElem (by rw [HP.out.len]; omega)⟩
                          have HYY := Lib.hid hy
                          have hyl := HP.out.lt y (List.mem_of_getElem? hy)
                          have hyl1 : (y : Int) < (nm.length : Int) := by omega
                          obtain ⟨t, ht⟩ : ∃ t, nm[y]? = some t := ⟨_, List.getElem?_eq_getElem hyl⟩
                          have HT := Lib.hid ht
                          have hby := HV.out.trans (HY.out.mono HV.out.size)
                          obtain ⟨ba', e1, e2⟩ := (HW2.out.2.at hby).cell j y hy
                          simp only [Option.some.injEq, Addr.mk.injEq, and_true] at e1
                          obtain rfl := e1
                          have e3 := (HY.out.cell (World.block_lt_of_cell? wq _ f0)).trans f0
                          have e4 := (HY.out.cell (World.block_lt_of_cell? wq _ f2)).trans f2
                          have hb0 := HV0.out.trans (HY.out.mono HV0.out.size)
                          have e5 := (hb0.cell (World.block_lt_of_cell? w0 _ HSG.out)).trans HSG.out
                          rcases HN3.out with h0 | ⟨bn, on, rfl, hcn⟩
                          · rw [h0] at hyl; simp at hyl
                          have e6 := (hb0.cell (World.block_lt_of_cell? w0 _ (hcn y t ht))).trans (hcn y t ht)
                          have r2 := cell_regrown e2
                          have r3 := cell_regrown e3
                          have r4 := cell_regrown e4
                          have r5 := cell_regrown e5
                          have r6 := cell_regrown e6
                          clear hy ht hyl hby e2 e3 e4 e5 e6 hb0 hcn
                          by_cases hts : t = s
                          · have hb : (t.toList == s.toList) = true := by rw [hts]; simp
                            clear hts
                            go_upto_region 25 with fail
                            refine wp_region_quiet_below (by kernel_rfl) (by kernel_rfl) ?_
                            iterate 22 go_big_quiet_step (fail)
                            refine wpQuiet_nil ?_; intro _ hw'; obtain ⟨⟨dq, osq⟩, hw''⟩ := hw'; subst hw''
                            go_wp2_with fail
                            exact ⟨⟨j + 1, true, by omega, rfl, by go_num, Lib.hid (HY.out.trans ((below_regrown _ dq osq).mono HY.out.size)), Lib.hid (fun e => by cases e)⟩, by simp [intOf]; omega⟩
                          · have hb : (t.toList == s.toList) = false := by simpa using bytes_ne hts
                            have HTS := Lib.hid hts
                            clear hts
                            go_upto_region 25 with fail
                            refine wp_region_quiet_below (by kernel_rfl) (by kernel_rfl) ?_
                            iterate 22 go_big_quiet_step (fail)
                            refine wpQuiet_nil ?_; intro _ hw'; obtain ⟨⟨dq, osq⟩, hw''⟩ := hw'; subst hw''
                            go_wp2_with fail
                            refine ⟨⟨j + 1, false, by omega, rfl, by go_num, Lib.hid (HY.out.trans ((below_regrown _ dq osq).mono HY.out.size)), Lib.hid (fun _ => ?_)⟩, by simp [intOf]; omega⟩
                            have h1 := HJ.out rfl
                            have h2 : j ≠ j0 := fun e => by
                              obtain ⟨_, h4, h5⟩ := HJ0.out
                              rw [← e, HYY.out] at h4
                              obtain rfl := Option.some.inj h4
                              rw [HT.out] at h5
                              exact HTS.out (Option.some.inj h5)
                            omega
                      · obtain rfl : j = k := by omega
                        have hbt : b = true := by
                          cases b with
                          | true => rfl
                          | false => have := HJ.out rfl; have := HJ0.out.1; omega
                        subst hbt
                        go_wp2_with fail
                        exact ⟨⟨m + 1, by rw [HNO.out]; omega, by go_num, Lib.hid (HV.out.trans (HY.out.mono HV.out.size))⟩, by rw [HNO.out]; simp [intOf]; omega⟩
                  · have hm1 : ¬ (m : Int) < (ss.length : Int) := by omega
                    go_wp2_with fail
                    exact ⟨⟨k + 1, by omega, by go_num, Lib.hid ⟨HV0.out, HW2.out.2.at HV.out⟩⟩, by simp [intOf]; omega⟩
                · have hxn1 : ¬ (x : Int) < (needs.length : Int) := by omega
                  go_wp2_with fail
                  exact ⟨⟨k + 1, by omega, by go_num, Lib.hid ⟨HV0.out, HW2.out.2.at HV.out⟩⟩, by simp [intOf]; omega⟩
        · obtain rfl : i = nm.length := by omega
          go_wp2_with (first | (go_at_call 9; refine (awake9 _).mono ?_; rintro e w7 ⟨rfl, hb7⟩; have HB7 := Lib.hid hb7; clear hb7))
          go_ret
          exact ⟨rfl, HW.out.1.trans (HB7.out.mono HW.out.1.size)⟩
    · have HOE : Hid (out = []) := Lib.hid (HER.out her)
      have her1 : (er != 0) = true := by simpa using her
      obtain rfl := HOE.out
      clear HPL HER
      go_enter Try.func4, Try.ntmps4
      go_wp2_with (first | (go_at_call 8; refine HH.out.mono ?_; rintro e w6 ⟨rfl, hw6⟩; obtain rfl := hw6.symm) | (go_at_call 10; refine HO.out.mono ?_; rintro e w1 ⟨hb1, vo, rfl, ho1⟩; have HB1 := Lib.hid hb1; have HI1 := Lib.hid (ints_iv ho1); obtain ⟨ao, co, rfl, _, _⟩ := HI1.out.shape; clear hb1 ho1) | (go_at_call 13; refine (num13 _ _).mono ?_; rintro e w6 ⟨rfl, hw6⟩; obtain rfl := hw6.symm) | (go_at_call 9; refine (awake9 _).mono ?_; rintro e w7 ⟨rfl, hb7⟩; have HB7 := Lib.hid hb7; clear hb7))
      go_ret
      exact ⟨rfl, HB1.out.trans (HB7.out.mono HB1.out.size)⟩
end Go.Proofs.Ytfhmfdmcdmcaiaa
