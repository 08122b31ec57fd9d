/- The document's Has. -/
import Derived.Test.YtcelpmojhjnggaaH24
import Derived.Deep.Cut
import Derived.Deep.DeepCutAuto
import Derived.Deep.RegionHeld3
import Derived.BigRegion
import Derived.Lib.QuietBelow
import Derived.BigQuiet
namespace Go.Proofs.Ytcelpmojhjnggaa
open Go Go.RowKit Go.Sort Go.Deep KindsP
set_option maxHeartbeats 4000000
set_option maxRecDepth 100000

/-- has one row of methods each of another one? -/
def hasAll (have_ want : List Fld) : Bool := want.all (fun m => hasM have_ m)
theorem hasAll_at (H l : List Fld) (k : Nat) (h : k < l.length) : hasAll H (l.drop k) = (hasM H l[k] && hasAll H (l.drop (k + 1))) := by
  unfold hasAll
  rw [List.drop_eq_getElem_cons h, List.all_cons]
theorem has64_any (d : Nat) (w0 w : World) (v vv : Value) (us : List Unt) (vars : List Fld) (kf kt : Int) (pf nf pt nt : ByteArray) (a1 a2 b1 b2 : Option Addr) (an1 ac1 an2 ac2 bn1 bc1 bn2 bc2 : Nat) (h : RowG 4 (LiesU w0 d) w0 v us) (hv : RowG 6 (LiesF w0 d) w0 vv vars) (hb0 : Below w0.heap.size w0 w) (hbd : ∀ p n, (fieldsOf ((findU us p n).getD zD)).length ≤ 1000000) (hbm : ∀ p n, (mOf n (declsO (unitF us p))).length ≤ 1000000) :
    Calls Try.prog 64 #[v, vv, .agg #[.int .i64 kf, .string pf, .string nf, .slice a1 an1 ac1, .slice a2 an2 ac2], .agg #[.int .i64 kt, .string pt, .string nt, .slice b1 bn1 bc1, .slice b2 bn2 bc2]] w fun e w' => e = .returned (.bool (hasAll (methL us vars kf pf nf) (methL us vars kt pt nt))) ∧ Below w.heap.size w w' := by
  have HRF := Lib.hid (fun W (hb : Below w.heap.size w W) => rmeth_any d w0 W v vv us vars kf pf nf a1 a2 an1 ac1 an2 ac2 h hv (hb0.trans (hb.mono hb0.size)) hbd hbm)
  have HRT := Lib.hid (fun W (hb : Below w.heap.size w W) => rmeth_any d w0 W v vv us vars kt pt nt b1 b2 bn1 bc1 bn2 bc2 h hv (hb0.trans (hb.mono hb0.size)) hbd hbm)
  generalize methL us vars kf pf nf = LH at HRF ⊢
  generalize methL us vars kt pt nt = LW at HRT ⊢
  obtain ⟨av, cv, rfl, _⟩ := h.form
  obtain ⟨bv, ev, rfl, _⟩ := hv.form
  have H0 := Lib.hid hb0
  have HB2 := Lib.hid (alloc2_below w (.cells #[.int .i64 kf, .string pf, .string nf, .slice a1 an1 ac1, .slice a2 an2 ac2] 31) (.cells #[.int .i64 kt, .string pt, .string nt, .slice b1 bn1 bc1, .slice b2 bn2 bc2] 31))
  have HBX := Lib.hid (fun (W : World) (hb : Below ((w.alloc (.cells #[.int .i64 kf, .string pf, .string nf, .slice a1 an1 ac1, .slice a2 an2 ac2] 31)).alloc (.cells #[.int .i64 kt, .string pt, .string nt, .slice b1 bn1 bc1, .slice b2 bn2 bc2] 31)).heap.size ((w.alloc (.cells #[.int .i64 kf, .string pf, .string nf, .slice a1 an1 ac1, .slice a2 an2 ac2] 31)).alloc (.cells #[.int .i64 kt, .string pt, .string nt, .slice b1 bn1 bc1, .slice b2 bn2 bc2] 31)) W) => (show (W.cell? ⟨w.heap.size + 1, 0, none⟩ = some (.int .i64 kt) ∧ W.cell? ⟨w.heap.size + 1, 1, none⟩ = some (.string pt) ∧ W.cell? ⟨w.heap.size + 1, 2, none⟩ = some (.string nt) ∧ W.cell? ⟨w.heap.size + 1, 3, none⟩ = some (.slice b1 bn1 bc1) ∧ W.cell? ⟨w.heap.size + 1, 4, none⟩ = some (.slice b2 bn2 bc2)) ∧ Below w.heap.size w W from by
    obtain ⟨_, hk, hbw⟩ := alloc_known2 hb
    exact ⟨⟨(cell_of_row _ _ 0 _ _ _ hk).trans rfl, (cell_of_row _ _ 1 _ _ _ hk).trans rfl, (cell_of_row _ _ 2 _ _ _ hk).trans rfl, (cell_of_row _ _ 3 _ _ _ hk).trans rfl, (cell_of_row _ _ 4 _ _ _ hk).trans rfl⟩, hbw⟩))
  clear h hv hb0 hbd hbm
  go_enter Try.func64, Try.ntmps64
  go_wp2_with (first | (go_at_call 31; refine (HRF.out _ HB2.out).mono ?_; rintro e w3 ⟨hb3, u3, rfl, ho3⟩; refine Hid.out ?_))
  refine Lib.hid ?_
  obtain ⟨⟨q0, q1, q2, q3, q4⟩, hbw3⟩ := HBX.out w3 hb3
  have HB3 := Lib.hid hbw3
  have hr3 := ho3.rowG (Nat.le_trans H0.out.size (Nat.le_trans HB2.out.size (Nat.le_refl _)))
  obtain ⟨ah, ch, rfl, hch, hmh, hfh⟩ := hr3.form
  have HR3 := Lib.hid hr3
  clear hb3 hbw3 ho3 hr3
  go_wp2_with (first | (go_at_call 31; refine (HRT.out w3 HB3.out).mono ?_; rintro e w4 ⟨hb4, u4, rfl, ho4⟩; refine Hid.out ?_))
  refine Lib.hid ?_
  have HB4 := Lib.hid (HB3.out.trans (hb4.mono HB3.out.size))
  have hr4 := ho4.rowG (Nat.le_trans H0.out.size HB3.out.size)
  obtain ⟨aw, cw, rfl, hcw, hmw, hfw⟩ := hr4.form
  have HR4 := Lib.hid hr4
  have HH4 := Lib.hid (HR3.out.mono (fun _ _ h => h) hb4)
  have hlh := Nat.le_trans hch hmh
  have hlw := Nat.le_trans hcw hmw
  unfold maxLen at hlh hlw
  have HB40 := Lib.hid (H0.out.trans (HB4.out.mono H0.out.size))
  clear hb4 ho4 hr4 q0 q1 q2 q3 q4 HR3 HBX HRF HRT
  go_wp2_with fail
  go_loopw [11] (fun iv wr => ∃ i : Nat, i ≤ LW.length ∧ iv = .int .i64 i ∧ Below w4.heap.size w4 wr ∧ Hid (hasAll LH LW = hasAll LH (LW.drop i))) (fun iv _ => LW.length - (intOf iv).toNat)
  case atStart => exact ⟨0, by omega, rfl, Below.refl _ _, rfl⟩
  case round =>
    obtain ⟨i, hi, rfl, hb, H⟩ := hrel
    have HB := Lib.hid hb
    clear hb
    by_cases hilt : i < LW.length
    · obtain ⟨bw, ow, rfl⟩ := hfw (by omega)
      have hi0 : (0 : Int) ≤ (i : Int) := by omega
      have hi1 : (i : Int) < (LW.length : Int) := by omega
      obtain ⟨cs, ⟨z0, z1, z2, z3, z4, rfl, hty⟩, hcs⟩ := HR4.out.get i LW[i] (by simp)
      have HE := Lib.hid (hasAll_at LH LW i hilt)
      obtain ⟨m, hm⟩ : ∃ x, LW[i] = x := ⟨_, rfl⟩
      rw [hm] at HE hty hcs
      obtain ⟨wn, wt⟩ := m
      dsimp only at HE hty hcs
      obtain ⟨y0, y1, y2, y3, y4, y5, y6, y7, y8, rfl, rfl, rfl, rfl, rfl⟩ := lies_form hty
      have HWT := Lib.hid hty
      have HWC := Lib.hid hcs
      clear hty hcs hm
      go_wp2_with fail
      go_loopw [12, 13] (fun ov kv wx => ∃ (k : Nat) (o : Bool), k ≤ LH.length ∧ kv = .int .i64 k ∧ ov = .bool o ∧ Below w4.heap.size w4 wx ∧ Hid (hasM LH ⟨wn, wt⟩ = (o || hasM (LH.drop k) ⟨wn, wt⟩))) (fun _ kv _ => LH.length - (intOf kv).toNat)
      case atStart => exact ⟨0, false, by omega, rfl, rfl, HB.out, rfl⟩
      case round =>
        obtain ⟨k, o, hk, rfl, rfl, hb, HK⟩ := hrel
        have HBI := Lib.hid hb
        clear hb
        by_cases hklt : k < LH.length
        · obtain ⟨bh, oh, rfl⟩ := hfh (by omega)
          have hk0 : (0 : Int) ≤ (k : Int) := by omega
          have hk1 : (k : Int) < (LH.length : Int) := by omega
          obtain ⟨cs, ⟨z0, z1, z2, z3, z4, rfl, hty⟩, hcs⟩ := HH4.out.get k LH[k] (by simp)
          have HKE := Lib.hid (hasM_at LH ⟨wn, wt⟩ k hklt)
          obtain ⟨x, hx⟩ : ∃ x, LH[k] = x := ⟨_, rfl⟩
          rw [hx] at HKE hty hcs
          obtain ⟨hn, ht⟩ := x
          dsimp only at HKE hty hcs
          obtain ⟨x0, x1, x2, x3, x4, x5, x6, x7, x8, rfl, rfl, rfl, rfl, rfl⟩ := lies_form hty
          have HS := Lib.hid (fun W (hb : Below w0.heap.size w0 W) => Same_any _ _ W _ _ _ _ (Lies.below hb _ _ _ hty) (Lies.below hb _ _ _ HWT.out))
          have HB0X := Lib.hid (HB40.out.trans (HBI.out.mono HB40.out.size))
          have HSW := Lib.hid (fun (w' : World) (hh : Below wr.heap.size wr w') => (show w'.cell? ⟨bh, oh + k * 6, none⟩ = some (.string hn) ∧ w'.cell? ⟨bh, oh + k * 6 + 1, none⟩ = some (.int .i64 x0) ∧ w'.cell? ⟨bh, oh + k * 6 + 2, none⟩ = some (.string x1) ∧ w'.cell? ⟨bh, oh + k * 6 + 3, none⟩ = some (.string x2) ∧ w'.cell? ⟨bh, oh + k * 6 + 4, none⟩ = some (.slice x3 x4 x5) ∧ w'.cell? ⟨bh, oh + k * 6 + 5, none⟩ = some (.slice x6 x7 x8) ∧ w'.cell? ⟨bw, ow + i * 6, none⟩ = some (.string wn) ∧ w'.cell? ⟨bw, ow + i * 6 + 1, none⟩ = some (.int .i64 y0) ∧ w'.cell? ⟨bw, ow + i * 6 + 2, none⟩ = some (.string y1) ∧ w'.cell? ⟨bw, ow + i * 6 + 3, none⟩ = some (.string y2) ∧ w'.cell? ⟨bw, ow + i * 6 + 4, none⟩ = some (.slice y3 y4 y5) ∧ w'.cell? ⟨bw, ow + i * 6 + 5, none⟩ = some (.slice y6 y7 y8) from by
            have hb' := HBI.out.trans (hh.mono HBI.out.size)
            exact ⟨cell_on hb' (hcs 0 _ rfl), cell_on hb' (hcs 1 _ rfl), cell_on hb' (hcs 2 _ rfl), cell_on hb' (hcs 3 _ rfl), cell_on hb' (hcs 4 _ rfl), cell_on hb' (hcs 5 _ rfl), cell_on hb' (HWC.out 0 _ rfl), cell_on hb' (HWC.out 1 _ rfl), cell_on hb' (HWC.out 2 _ rfl), cell_on hb' (HWC.out 3 _ rfl), cell_on hb' (HWC.out 4 _ rfl), cell_on hb' (HWC.out 5 _ rfl)⟩))
          clear hcs hty hx
          have hfit : fitM ⟨hn, ht⟩ ⟨wn, wt⟩ = ((hn == wn) && sameT ht wt) := rfl
          obtain ⟨fv, hfv⟩ : ∃ fv, fitM ⟨hn, ht⟩ ⟨wn, wt⟩ = fv := ⟨_, rfl⟩
          rw [hfv] at hfit HKE
          have HFIT := Lib.hid hfit
          clear hfv hfit
          obtain ⟨e0, e1, e2, e3, e4, e5, f0, f1, f2, f3, f4, f5⟩ := HSW.out _ (Below.refl _ _)
          have re0 := cell_regrown e0
          have re1 := cell_regrown e1
          have re2 := cell_regrown e2
          have re3 := cell_regrown e3
          have re4 := cell_regrown e4
          have re5 := cell_regrown e5
          have rf0 := cell_regrown f0
          have rf1 := cell_regrown f1
          have rf2 := cell_regrown f2
          have rf3 := cell_regrown f3
          have rf4 := cell_regrown f4
          have rf5 := cell_regrown f5
          have cs24 := fun dd os => Calls.regrown_of (HS.out (grow (redrawn wr dd) os) (HB0X.out.trans ((below_regrown wr dd os).mono HB0X.out.size)))
          clear HSW HS e0 e1 e2 e3 e4 e5 f0 f1 f2 f3 f4 f5
          cases o with
          | true =>
            clear cs24
            go_wp2_with (refine wp_region_quiet_below (by kernel_rfl) (by kernel_rfl) ?_; go_big_quiet_step (fail); go_big_quiet_step (fail); go_big_quiet_step (fail); go_big_quiet_step (fail); go_big_quiet_step (fail); go_big_quiet_step (fail); go_big_quiet_step (fail); go_big_quiet_step (fail); go_big_quiet_step (fail); go_big_quiet_step (fail); go_big_quiet_step (fail); go_big_quiet_step (fail); go_big_quiet_step (fail); go_big_quiet_step (fail); go_big_quiet_step (fail); go_big_quiet_step (fail); go_big_quiet_step (fail); go_big_quiet_step (fail); go_big_quiet_step (fail); go_big_quiet_step (fail); go_big_quiet_step (fail); go_big_quiet_step (fail); go_big_quiet_step (fail); go_big_quiet_step (fail); go_big_quiet_step (fail); go_big_quiet_step (fail); go_big_quiet_step (fail); go_big_quiet_step (fail); refine wpQuiet_nil ?_; intro _ hw'; obtain ⟨⟨dq, osq⟩, hw''⟩ := hw'; subst hw'')
            go_wp2_with fail
            refine ⟨⟨k + 1, true, by omega, by go_num, rfl, HBI.out.trans ((below_regrown _ dq osq).mono HBI.out.size), ?_⟩, by simp [intOf]; omega⟩
            exact Lib.hid (by rw [HK.out]; rfl)
          | false =>
            cases hp : (hn == wn)
            · have hp' : (hn.toList == wn.toList) = false := by simpa using list_eq hp
              have HV : Hid (fv = false) := Lib.hid (by rw [HFIT.out, hp]; rfl)
              clear hp cs24
              go_wp2_with (refine wp_region_quiet_below (by kernel_rfl) (by kernel_rfl) ?_; go_big_quiet_step (fail); go_big_quiet_step (fail); go_big_quiet_step (fail); go_big_quiet_step (fail); go_big_quiet_step (fail); go_big_quiet_step (fail); go_big_quiet_step (fail); go_big_quiet_step (fail); go_big_quiet_step (fail); go_big_quiet_step (fail); go_big_quiet_step (fail); go_big_quiet_step (fail); go_big_quiet_step (fail); go_big_quiet_step (fail); go_big_quiet_step (fail); go_big_quiet_step (fail); go_big_quiet_step (fail); go_big_quiet_step (fail); go_big_quiet_step (fail); go_big_quiet_step (fail); go_big_quiet_step (fail); go_big_quiet_step (fail); go_big_quiet_step (fail); go_big_quiet_step (fail); go_big_quiet_step (fail); go_big_quiet_step (fail); go_big_quiet_step (fail); go_big_quiet_step (fail); refine wpQuiet_nil ?_; intro _ hw'; obtain ⟨⟨dq, osq⟩, hw''⟩ := hw'; subst hw'')
              go_wp2_with fail
              refine ⟨⟨k + 1, false, by omega, by go_num, rfl, HBI.out.trans ((below_regrown _ dq osq).mono HBI.out.size), ?_⟩, by simp [intOf]; omega⟩
              exact Lib.hid (by rw [HK.out, HKE.out, HV.out]; rfl)
            · have hp' := list_eq' hp
              have HV : Hid (fv = sameT ht wt) := Lib.hid (by rw [HFIT.out, hp]; rfl)
              clear hp
              go_wp2_with (refine wp_region_quiet_below (by kernel_rfl) (by kernel_rfl) ?_; go_big_quiet_step (fail); go_big_quiet_step (fail); go_big_quiet_step (fail); go_big_quiet_step (fail); go_big_quiet_step (fail); go_big_quiet_step (fail); go_big_quiet_step (fail); go_big_quiet_step (fail); go_big_quiet_step (fail); go_big_quiet_step (fail); go_big_quiet_step (fail); go_big_quiet_step (fail); go_big_quiet_step (fail); go_big_quiet_step (fail); go_big_quiet_step (fail); go_big_quiet_step (fail); go_big_quiet_step (fail); go_big_quiet_step (fail); go_big_quiet_step (fail); go_big_quiet_step (fail); go_big_quiet_step (fail); go_big_quiet_step (fail); go_big_quiet_step (fail); go_big_quiet_step (fail); go_big_quiet_step (exact cs24 _ _); go_big_quiet_step (fail); go_big_quiet_step (fail); go_big_quiet_step (fail); refine wpQuiet_nil ?_; intro _ hw'; obtain ⟨⟨dq, osq⟩, hw''⟩ := hw'; subst hw'')
              go_wp2_with fail
              refine ⟨⟨k + 1, sameT ht wt, by omega, by go_num, rfl, HBI.out.trans ((below_regrown _ dq osq).mono HBI.out.size), ?_⟩, by simp [intOf]; omega⟩
              exact Lib.hid (by rw [HK.out, HKE.out, HV.out]; rfl)
        · have HN := Lib.hid (show hasM LH ⟨wn, wt⟩ = o by rw [HK.out, List.drop_eq_nil_of_le (by omega)]; exact Bool.or_false _)
          cases o with
          | true =>
            go_wp2_with fail
            refine ⟨⟨i + 1, by omega, by go_num, HBI.out, ?_⟩, by simp [intOf]; omega⟩
            exact Lib.hid (by rw [H.out, HE.out, HN.out]; rfl)
          | false =>
            have HR : Hid (hasAll LH LW = false) := Lib.hid (by rw [H.out, HE.out, HN.out]; rfl)
            go_wp2_with fail
            go_ret
            rw [HR.out]
            exact ⟨rfl, HB4.out.trans (HBI.out.mono HB4.out.size)⟩
    · have HR : Hid (hasAll LH LW = true) := Lib.hid (by rw [H.out, List.drop_eq_nil_of_le (by omega)]; rfl)
      go_wp2_with fail
      go_ret
      rw [HR.out]
      exact ⟨rfl, HB4.out.trans (HB.out.mono HB4.out.size)⟩
end Go.Proofs.Ytcelpmojhjnggaa

/- The document's found: is an interface there? -/
namespace Go.Proofs.Ytcelpmojhjnggaa
open Go Go.RowKit Go.Sort Go.Deep KindsP
set_option maxHeartbeats 4000000
set_option maxRecDepth 100000

theorem found63_any (d : Nat) (w0 w : World) (v : Value) (us : List Unt) (k : Int) (p n : ByteArray) (a1 a2 : Option Addr) (n1 c1 n2 c2 : Nat) (h : RowG 4 (LiesU w0 d) w0 v us) (hb0 : Below w0.heap.size w0 w) :
    Calls Try.prog 63 #[v, .agg #[.int .i64 k, .string p, .string n, .slice a1 n1 c1, .slice a2 n2 c2]] w fun e w' => e = .returned (.bool (faceOk us k p n)) ∧ Below w.heap.size w w' := by
  have HF := Lib.hid (rfind_any d w0 (w.alloc (.cells #[.int .i64 k, .string p, .string n, .slice a1 n1 c1, .slice a2 n2 c2] 31)) v us p n h (hb0.alloc hb0.size _))
  obtain ⟨a, c, rfl, _⟩ := h.form
  have HE := Lib.hid (show faceOk us k p n = ((k == 8) && ((findU us p n).getD zD).kind == 4) from rfl)
  generalize faceOk us k p n = fo at HE ⊢
  clear h hb0
  go_enter Try.func63, Try.ntmps63
  go_wp2_with (first | (go_at_call 26; refine HF.out.mono ?_; rintro e w3 hp; obtain ⟨hb3, kd, nm, of, vl, x0, x1, x2, x3, x4, x5, x6, x7, x8, xf, nf, cf, rfl, hl⟩ := find_vals hp; refine Hid.out ?_))
  refine Lib.hid ?_
  obtain ⟨hk, hbw⟩ := alloc_known hb3
  have q0 : w3.cell? ⟨w.heap.size, 0, none⟩ = some (.int .i64 k) := (cell_of_row _ _ 0 _ _ _ hk).trans rfl
  have hsz : w.heap.size < w3.heap.size := (Array.getElem?_eq_some_iff.1 hk).1
  have HW := Lib.hid hbw
  have hkd := liesD_kind hl
  generalize findU us p n = r at *
  rw [hkd] at HE
  have HKZ : Hid (r = none → kd = 0) := Lib.hid (fun h => by rw [h] at hkd; exact hkd.symm)
  clear hp hb3 hk hbw hl hkd HF
  by_cases h8 : k = 8
  · subst h8
    cases r with
    | none =>
      obtain rfl := HKZ.out rfl
      have HR : Hid (fo = false) := Lib.hid (by rw [HE.out]; rfl)
      go_wp2_with fail
      go_ret
      obtain rfl := HR.out
      exact ⟨rfl, HW.out.alloc (Nat.le_of_lt hsz) _⟩
    | some x =>
      cases e4 : (kd == 4)
      · have HR : Hid (fo = false) := Lib.hid (by rw [HE.out, e4]; rfl)
        go_wp2_with fail
        go_ret
        obtain rfl := HR.out
        exact ⟨rfl, HW.out.alloc (Nat.le_of_lt hsz) _⟩
      · have HR : Hid (fo = true) := Lib.hid (by rw [HE.out, e4]; rfl)
        go_wp2_with fail
        go_ret
        obtain rfl := HR.out
        exact ⟨rfl, HW.out.alloc (Nat.le_of_lt hsz) _⟩
  · have hkb : (k == 8) = false := by simpa using h8
    have HR : Hid (fo = false) := Lib.hid (by rw [HE.out, hkb]; rfl)
    cases r
    all_goals
      go_wp2_with fail
      go_ret
      obtain rfl := HR.out
      exact ⟨rfl, HW.out.alloc (Nat.le_of_lt hsz) _⟩
end Go.Proofs.Ytcelpmojhjnggaa
