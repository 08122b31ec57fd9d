/- Methods, its answer one's own. -/
import Derived.Test.YtcelpmojhjnggaaI28
import Derived.Deep.Cut
import Derived.Deep.DeepCutAuto
import Derived.Deep.RegionHeld3
import Derived.BigRegion
import Derived.Deep.AppendLies
namespace Go.Proofs.Ytcelpmojhjnggaa
open Go Go.RowKit Go.Sort Go.Deep KindsP
set_option maxHeartbeats 4000000
set_option maxRecDepth 100000

/-- what Methods leaves: fields made anew, that can be spoilt -/
def MethPostF (w : World) (d : Nat) (L : List Fld) (e : Ending) (w' : World) : Prop := Below w.heap.size w w' ∧ ∃ u, e = .returned u ∧ OwnFI w' d w.heap.size u L
theorem methf_plain (d : Nat) (w0 w : World) (v vv : Value) (us : List Unt) (k : Int) (p n : ByteArray) (a1 a2 : Option Addr) (n1 c1 n2 c2 : Nat) (bv : Option Addr) (mv ev : Nat) (hvv : vv = .slice bv mv ev) (h : RowG 4 (LiesU w0 d) w0 v us) (hb0 : Below w0.heap.size w0 w) (h5 : ¬ k = 5) (h9 : ¬ k = 9) (hbd : (baseL us k p n).length ≤ 1000000) (hst : ∀ x ∈ baseL us k p n, sizT x.ty ≤ 1000000000) :
    Calls Try.prog 29 #[v, vv, .agg #[.int .i64 k, .string p, .string n, .slice a1 n1 c1, .slice a2 n2 c2]] w (MethPostF w (d + 1) (isort ltF (baseL us k p n))) := by
  subst hvv
  have hb1 : Below w.heap.size w (w.alloc (.cells #[.int .i64 k, .string p, .string n, .slice a1 n1 c1, .slice a2 n2 c2] 31)) := (Below.refl _ _).alloc (Nat.le_refl _) _
  have HF := Lib.hid (face_any d w0 (w.alloc (.cells #[.int .i64 k, .string p, .string n, .slice a1 n1 c1, .slice a2 n2 c2] 31)) v us k p n a1 a2 n1 c1 n2 c2 h (hb0.alloc hb0.size _))
  have e5 : (k == 5) = false := by simpa using h5
  have e9 : (k == 9) = false := by simpa using h9
  have HBL := Lib.hid (show baseL us k p n = if faceOk us k p n = true then (faceD us k p n).fields else [] by
    unfold baseL faceOk faceD
    rw [if_neg h5]
    by_cases h8 : k = 8
    · subst h8; simp
    · simp [h8])
  obtain ⟨fl, hfl⟩ : ∃ fl, faceOk us k p n = fl := ⟨_, rfl⟩
  obtain ⟨x, hx⟩ : ∃ x, faceD us k p n = x := ⟨_, rfl⟩
  rw [hfl, hx] at HBL
  have HFL := Lib.hid hfl
  have HXE := Lib.hid hx
  clear hfl hx
  generalize baseL us k p n = L at hbd hst HBL ⊢
  obtain ⟨a, c, rfl, _⟩ := h.form
  have H0 := Lib.hid hb0
  have hw0w := hb0.size
  have HBD := Lib.hid hbd
  have HST := Lib.hid hst
  clear h hb0 hb1 hbd hst h5 h9
  go_enter Try.func29, Try.ntmps29
  go_wp2_with (first | (go_at_call 52; refine HF.out.mono ?_; rintro e w2 ⟨hb2, kd, nm, of, vl, x0, x1, x2, x3, x4, x5, x6, x7, x8, xf, nf, cf, rfl, hl⟩; refine Hid.out ?_))
  refine Lib.hid ?_
  rw [HFL.out]
  rw [HXE.out] at hl
  obtain ⟨hk2, hbw⟩ := alloc_known hb2
  have hsz : w.heap.size < w2.heap.size := (Array.getElem?_eq_some_iff.1 hk2).1
  have HBX := Lib.hid (fun W (hb : Below w2.heap.size w2 W) => (show W.cell? ⟨w.heap.size, 0, none⟩ = some (.int .i64 k) from cell_on hb ((cell_of_row _ _ 0 _ _ _ hk2).trans rfl)))
  obtain ⟨z0, z1, z2, z3, z4, vf, e, _, hfs⟩ := hl
  have hvf : some (Value.slice xf nf cf) = some vf := congrArg (fun l : List Value => l[9]?) e
  obtain rfl := Option.some.inj hvf
  clear e hvf
  have hb3 := hbw.alloc (Nat.le_of_lt hsz) (.cells #[.int .i64 kd, .string nm, .string of, .int .i64 vl, .int .i64 x0, .string x1, .string x2, .slice x3 x4 x5, .slice x6 x7 x8, .slice xf nf cf] 41)
  have H00 := H0.out.trans (hb3.mono hw0w)
  have HB3 := Lib.hid hb3
  have HWW := Lib.hid (show w.heap.size ≤ (w2.alloc (.cells #[.int .i64 kd, .string nm, .string of, .int .i64 vl, .int .i64 x0, .string x1, .string x2, .slice x3 x4 x5, .slice x6 x7 x8, .slice xf nf cf] 41)).heap.size by simp; omega)
  have HW0 := Lib.hid (show w0.heap.size ≤ (w2.alloc (.cells #[.int .i64 kd, .string nm, .string of, .int .i64 vl, .int .i64 x0, .string x1, .string x2, .slice x3 x4 x5, .slice x6 x7 x8, .slice xf nf cf] 41)).heap.size by simp; omega)
  have HX0 := Lib.hid H00
  cases fl with
  | true =>
    rw [if_pos rfl] at HBL
    have HCL := Lib.hid (clone53_any (d + 1) w0 (w2.alloc (.cells #[.int .i64 kd, .string nm, .string of, .int .i64 vl, .int .i64 x0, .string x1, .string x2, .slice x3 x4 x5, .slice x6 x7 x8, .slice xf nf cf] 41)) _ L (by rw [HBL.out]; exact hfs) H00 HBD.out)
    clear hb2 hk2 hbw hfs hb3 H00
    go_wp2_with (first | (go_at_call 53; refine HCL.out.mono ?_; rintro e w4 ⟨hb4, u4, rfl, ho4⟩; have c0 := HBX.out w4 ((Below.refl w2.heap.size w2).alloc (Nat.le_refl _) (.cells #[.int .i64 kd, .string nm, .string of, .int .i64 vl, .int .i64 x0, .string x1, .string x2, .slice x3 x4 x5, .slice x6 x7 x8, .slice xf nf cf] 41) |>.trans (hb4.mono (by simp))); obtain ⟨cl4, hoc4, _⟩ := id ho4; obtain ⟨ao4, cp4, rfl⟩ := own_shape hoc4; have HO4 := Lib.hid ho4; have HB4 := Lib.hid hb4; clear hb4 ho4 hoc4) | (go_at_call 54; refine (sortOwn_any (d + 1) w0 w4 (w2.alloc (.cells #[.int .i64 kd, .string nm, .string of, .int .i64 vl, .int .i64 x0, .string x1, .string x2, .slice x3 x4 x5, .slice x6 x7 x8, .slice xf nf cf] 41)).heap.size _ L HW0.out HB4.out.size HBD.out HO4.out).mono ?_; rintro e w5 ⟨⟨u5, rfl⟩, hr5, hb5⟩; have HR5 := Lib.hid hr5; have HB5 := Lib.hid (HB4.out.trans hb5); clear hr5 hb5) | (go_at_call 57; refine (each57f_any (d + 1) w5 _ (isort ltF L) (HR5.out.mono (LiesF.below (HX0.out.trans (HB5.out.mono HW0.out)) (d + 1)) (Below.refl _ _)) (by rw [isort_length]; exact HBD.out) (fun y hy => HST.out y (isort_mem.1 hy))).mono ?_; rintro e w6 ⟨u6, rfl, hr6, hb6⟩; have HR6 := Lib.hid hr6; have HB6 := Lib.hid hb6; clear hr6 hb6))
    go_ret
    exact ⟨(HB3.out.trans (HB5.out.mono HWW.out)).trans (HB6.out.mono (Nat.le_trans HWW.out HB5.out.size)), _, rfl, HR6.out.base ((Nat.le_trans HWW.out HB5.out.size))⟩
  | false =>
    rw [if_neg (by decide)] at HBL
    have c0 := HBX.out (w2.alloc (.cells #[.int .i64 kd, .string nm, .string of, .int .i64 vl, .int .i64 x0, .string x1, .string x2, .slice x3 x4 x5, .slice x6 x7 x8, .slice xf nf cf] 41)) ((Below.refl w2.heap.size w2).alloc (Nat.le_refl _) _)
    have c0' := HBX.out w2 (Below.refl _ _)
    clear hb2 hk2 hbw hfs hb3 H00
    go_wp2_with (first | (go_at_call 54; refine (sortOwn_any (d + 1) w0 (w2.alloc (.cells #[.int .i64 kd, .string nm, .string of, .int .i64 vl, .int .i64 x0, .string x1, .string x2, .slice x3 x4 x5, .slice x6 x7 x8, .slice xf nf cf] 41)) (w2.alloc (.cells #[.int .i64 kd, .string nm, .string of, .int .i64 vl, .int .i64 x0, .string x1, .string x2, .slice x3 x4 x5, .slice x6 x7 x8, .slice xf nf cf] 41)).heap.size _ [] HW0.out (Nat.le_refl _) (by simp) (OwnF.nil _ _ _ _)).mono ?_; rintro e w5 ⟨⟨u5, rfl⟩, hr5, hb5⟩; have HR5 := Lib.hid hr5; have HB5 := Lib.hid hb5; clear hr5 hb5) | (go_at_call 57; refine (each57f_any (d + 1) w5 _ (isort ltF []) (HR5.out.mono (LiesF.below (HX0.out.trans (HB5.out.mono HW0.out)) (d + 1)) (Below.refl _ _)) (by rw [isort_length]; simp) (fun y hy => by cases isort_mem.1 hy)).mono ?_; rintro e w6 ⟨u6, rfl, hr6, hb6⟩; have HR6 := Lib.hid hr6; have HB6 := Lib.hid hb6; clear hr6 hb6))
    go_ret
    rw [HBL.out]
    exact ⟨(HB3.out.trans (HB5.out.mono HWW.out)).trans (HB6.out.mono (Nat.le_trans HWW.out HB5.out.size)), _, rfl, HR6.out.base ((Nat.le_trans HWW.out HB5.out.size))⟩
end Go.Proofs.Ytcelpmojhjnggaa

/- The document's Methods. -/
namespace Go.Proofs.Ytcelpmojhjnggaa
open Go Go.RowKit Go.Sort Go.Deep KindsP
set_option maxHeartbeats 4000000
set_option maxRecDepth 100000

theorem meth_ptr (d : Nat) (w0 w : World) (v vv : Value) (us : List Unt) (p n : ByteArray) (a1 a2 : Option Addr) (n1 c1 n2 c2 : Nat) (bv : Option Addr) (mv ev : Nat) (hvv : vv = .slice bv mv ev) (h : RowG 4 (LiesU w0 d) w0 v us) (hb0 : Below w0.heap.size w0 w) (hbd : (mOf n (declsO (unitF us p))).length ≤ 1000000) (hst : ∀ x ∈ mOf n (declsO (unitF us p)), sizT x.ty ≤ 1000000000) :
    Calls Try.prog 29 #[v, vv, .agg #[.int .i64 5, .string p, .string n, .slice a1 n1 c1, .slice a2 n2 c2]] w (MethPost w (d + 1) (isort ltF (mOf n (declsO (unitF us p))))) := by
  subst hvv
  obtain ⟨i9, hi9, hz90, hz91, hz92⟩ := info_parts Try.info52'
  have HF := Lib.hid (face_any d w0 (w.alloc (.cells #[.int .i64 5, .string p, .string n, .slice a1 n1 c1, .slice a2 n2 c2] 31)) v us 5 p n a1 a2 n1 c1 n2 c2 h (hb0.alloc hb0.size _))
  have HFL := Lib.hid (show faceOk us 5 p n = false by unfold faceOk; simp)
  have HUN := Lib.hid (fun W (hb : Below w0.heap.size w0 W) => unit_any d w0 W v us p h hb)
  generalize hL : declsO (unitF us p) = ds at hbd hst ⊢
  have HDL := Lib.hid hL
  obtain ⟨a, c, rfl, _⟩ := h.form
  have H0 := Lib.hid hb0
  have hw0w := hb0.size
  have HBD := Lib.hid hbd
  have HST := Lib.hid hst
  have hfd := field74
  clear h hb0 hbd hst hL
  go_enter Try.func29, Try.ntmps29
  go_wp2_with (first | (go_at_call 52; refine HF.out.mono ?_; rintro e w2 ⟨hb2, kd, nm, of, vl, x0, x1, x2, x3, x4, x5, x6, x7, x8, xf, nf, cf, rfl, hl⟩; refine Hid.out ?_))
  refine Lib.hid ?_
  rw [HFL.out]
  obtain ⟨hk2, hbw⟩ := alloc_known hb2
  have hsz : w.heap.size < w2.heap.size := (Array.getElem?_eq_some_iff.1 hk2).1
  have HBX := Lib.hid (fun W (hb : Below w2.heap.size w2 W) => (show W.cell? ⟨w.heap.size, 0, none⟩ = some (.int .i64 5) ∧ W.cell? ⟨w.heap.size, 1, none⟩ = some (.string p) ∧ W.cell? ⟨w.heap.size, 2, none⟩ = some (.string n) from ⟨cell_on hb ((cell_of_row _ _ 0 _ _ _ hk2).trans rfl), cell_on hb ((cell_of_row _ _ 1 _ _ _ hk2).trans rfl), cell_on hb ((cell_of_row _ _ 2 _ _ _ hk2).trans rfl)⟩))
  have hb3 := hbw.alloc (Nat.le_of_lt hsz) (.cells #[.int .i64 kd, .string nm, .string of, .int .i64 vl, .int .i64 x0, .string x1, .string x2, .slice x3 x4 x5, .slice x6 x7 x8, .slice xf nf cf] 41)
  have H00 := H0.out.trans (hb3.mono hw0w)
  have HU2 := Lib.hid (HUN.out (w2.alloc (.cells #[.int .i64 kd, .string nm, .string of, .int .i64 vl, .int .i64 x0, .string x1, .string x2, .slice x3 x4 x5, .slice x6 x7 x8, .slice xf nf cf] 41)) H00)
  have HB3 := Lib.hid hb3
  have HX0 := Lib.hid H00
  have HW2 := Lib.hid (show Below w2.heap.size w2 (w2.alloc (.cells #[.int .i64 kd, .string nm, .string of, .int .i64 vl, .int .i64 x0, .string x1, .string x2, .slice x3 x4 x5, .slice x6 x7 x8, .slice xf nf cf] 41)) from (Below.refl _ _).alloc (Nat.le_refl _) _)
  obtain ⟨b0, b1, b2⟩ := HBX.out w2 (Below.refl _ _)
  clear hb2 hk2 hbw hl hb3 H00 HUN
  go_wp2_with (first | (go_at_call 49; refine HU2.out.mono ?_; rintro e w3 ⟨hb3, us0, vi, vd, vb, rfl, hrd⟩; refine Hid.out ?_))
  refine Lib.hid ?_
  rw [HDL.out] at hrd
  obtain ⟨ad, cd, rfl, hcd, hmd, hdf⟩ := hrd.form
  have hld := Nat.le_trans hcd hmd
  unfold maxLen at hld
  have HD := Lib.hid hrd
  have HW3 := Lib.hid (HW2.out.trans (hb3.mono HW2.out.size))
  have HB4 := Lib.hid (HB3.out.trans (hb3.mono HB3.out.size))
  have HX4 := Lib.hid (HX0.out.trans (hb3.mono HX0.out.size))
  have hsz3 : w.heap.size < w3.heap.size := Nat.lt_of_lt_of_le hsz HW3.out.size
  have HX4S := Lib.hid HX4.out.size
  clear hrd hb3 HU2 b0 b1 b2
  go_wp2_with fail
  go_loopw [7, 41] (fun ov iv wr => ∃ (k : Nat) (acc : List Fld), k ≤ ds.length ∧ iv = .int .i64 k ∧ OwnF w0 (d + 1) wr w3.heap.size ov acc ∧ Below w3.heap.size w3 wr ∧ Hid (acc ++ mOf n (ds.drop k) = mOf n ds)) (fun _ iv _ => ds.length - (intOf iv).toNat)
  case atStart => exact ⟨0, [], by omega, rfl, OwnF.nil _ _ _ _, Below.refl _ _, rfl⟩
  case round =>
    obtain ⟨k, acc, hk, rfl, hown, hb, H⟩ := hrel
    have HB := Lib.hid hb
    have HOWN := Lib.hid hown
    obtain ⟨cells, hoc, hcells⟩ := hown
    obtain ⟨al, hal⟩ : ∃ al, acc.length = al := ⟨_, rfl⟩
    rw [hal] at hoc
    have HAL := Lib.hid hal
    obtain ⟨ao, cap, rfl⟩ := own_shape hoc
    have HO := Lib.hid hoc
    have HCE := Lib.hid hcells
    obtain ⟨b0, b1, b2⟩ := HBX.out wr (HW3.out.trans (hb.mono HW3.out.size))
    have H00 := Lib.hid (HX4.out.trans (hb.mono HX4S.out))
    have hszr : w.heap.size < wr.heap.size := Nat.lt_of_lt_of_le hsz3 hb.size
    have hs3r := hb.size
    clear hb hoc hcells hal
    by_cases hlt : k < ds.length
    · obtain ⟨b, o, rfl⟩ := hdf (by omega)
      obtain ⟨cs, ⟨z0, z1, z2, z3, z4, vf, rfl, hty, hfs⟩, hcs⟩ := HD.out.get k ds[k] (by simp)
      have HE := Lib.hid (mOf_at n ds k hlt)
      obtain ⟨x, hx⟩ : ∃ x, ds[k] = x := ⟨_, rfl⟩
      rw [hx] at HE hty hfs hcs
      obtain ⟨dk, dn, dof, dv, t, fs⟩ := x
      dsimp only at HE hty hfs hcs
      obtain ⟨y0, y1, y2, y3, y4, y5, y6, y7, y8, rfl, rfl, rfl, rfl, rfl⟩ := lies_form hty
      obtain ⟨af, cf, rfl, _⟩ := hfs.form
      have HX : Hid (LiesF w0 (d + 1) [.string dn, .int .i64 y0, .string y1, .string y2, .slice y3 y4 y5, .slice y6 y7 y8] ⟨dn, t⟩) := Lib.hid ⟨_, _, _, _, _, rfl, hty.le (Nat.le_succ _)⟩
      have g0 := cell_on H00.out (hcs 0 _ rfl)
      rw [Nat.add_zero] at g0
      have g1 := cell_on H00.out (hcs 1 _ rfl)
      have g2 := cell_on H00.out (hcs 2 _ rfl)
      have g3 := cell_on H00.out (hcs 3 _ rfl)
      have g4 := cell_on H00.out (hcs 4 _ rfl)
      have g5 := cell_on H00.out (hcs 5 _ rfl)
      have g6 := cell_on H00.out (hcs 6 _ rfl)
      have g7 := cell_on H00.out (hcs 7 _ rfl)
      have g8 := cell_on H00.out (hcs 8 _ rfl)
      have g9 := cell_on H00.out (hcs 9 _ rfl)
      clear hcs hty hfs hx
      cases hc : ((dk == 6) && (dof == n))
      · have HR := Lib.hid (show acc ++ mOf n (ds.drop (k + 1)) = mOf n ds by rw [← H.out, HE.out, if_neg (by rw [hc]; simp)])
        clear H HE
        cases hk6 : (dk == 6)
        · clear hc
          go_wp2_with fail
          exact ⟨⟨k + 1, acc, by omega, by go_num, HOWN.out.below ((Below.refl _ _).alloc (Nat.le_refl _) _), HB.out.alloc hs3r _, HR⟩, by simp [intOf]; omega⟩
        · rw [hk6, Bool.true_and] at hc
          have hp' : (dof.toList == n.toList) = false := by simpa using list_eq hc
          clear hc
          go_wp2_with fail
          exact ⟨⟨k + 1, acc, by omega, by go_num, HOWN.out.below ((Below.refl _ _).alloc (Nat.le_refl _) _), HB.out.alloc hs3r _, HR⟩, by simp [intOf]; omega⟩
      · have HR := Lib.hid (show (acc ++ [⟨dn, t⟩]) ++ mOf n (ds.drop (k + 1)) = mOf n ds by rw [← H.out, HE.out, if_pos hc]; simp)
        have HAB : Hid (al ≤ 1000000) := Lib.hid (by
          have := congrArg List.length HR.out
          rw [List.length_append, List.length_append, HAL.out] at this
          have h2 := HBD.out
          omega)
        have halb := HAB.out
        rw [Bool.and_eq_true] at hc
        obtain ⟨hk6, hnm⟩ := hc
        have hp' := list_eq' hnm
        clear H HE hnm
        go_wp2_with (first | (at_builtin; refine wpList_append_lies _ rfl (.tmp 55) (.tmp 61) 39 rfl w3.heap.size 52 i9 _ 6 104 Try.underlying39 hi9 hz90 hz91 hz92 rfl (by decide) _ al _ rfl ((own_below HO.out ((Below.refl _ _).alloc (Nat.le_refl _) _)).alloc _) ⟨wr.heap.size + 1, 0, none⟩ 1 1 [.string dn, .int .i64 y0, .string y1, .string y2, .slice y3 y4 y5, .slice y6 y7 y8] rfl rfl (World.news_of_block (cs := #[.string dn, .int .i64 y0, .string y1, .string y2, .slice y3 y4 y5, .slice y6 y7 y8]) (t := 52) (fr := (0, 0)) (alloc_known2 (w := wr) (cs := #[.int .i64 dk, .string dn, .string dof, .int .i64 dv, .int .i64 y0, .string y1, .string y2, .slice y3 y4 y5, .slice y6 y7 y8, .slice af fs.length cf]) (ds := #[.string dn, .int .i64 y0, .string y1, .string y2, .slice y3 y4 y5, .slice y6 y7 y8]) (t := 41) (u := 52) (fr := (0, 0)) (gr := (0, 0)) (Below.refl _ _)).2.1) (by simp [Value.oneCell']) (by omega) (by unfold maxLen; omega) (by omega) (by simp; omega) (wr.heap.size + 1 + 1) (by simp) ?_; intro gg cp w5 hown3 hgrow hat hlt3; have HOW := Lib.hid hown3; have HG : Hid (((wr.alloc (.cells #[.int .i64 dk, .string dn, .string dof, .int .i64 dv, .int .i64 y0, .string y1, .string y2, .slice y3 y4 y5, .slice y6 y7 y8, .slice af fs.length cf] 41)).alloc (.cells #[.string dn, .int .i64 y0, .string y1, .string y2, .slice y3 y4 y5, .slice y6 y7 y8] 52)).grownBy w5 (Value.slice ao al cap).ownBlock) := hgrow; clear hown3 hgrow hat hlt3))
        refine ⟨⟨k + 1, acc ++ [⟨dn, t⟩], by omega, by go_num, ⟨_, by rw [List.length_append, HAL.out]; exact HOW.out, HCE.out.snoc (by rw [HO.out.1, HAL.out]) _ _ _ _ _ _ ⟨dn, t⟩ HX.out⟩, ?_, HR⟩, by simp [intOf]; omega⟩
        exact ((HB.out.alloc hs3r _).alloc (by simp; omega) _).grown HG.out (by simp; omega) (fun g hg => (HO.out.lt g hg).1)
    · have HR := Lib.hid (show acc = mOf n ds by rw [← H.out, List.drop_eq_nil_of_le (by omega)]; simp [mOf])
      have HAB : Hid (acc.length ≤ 1000000) := Lib.hid (by rw [HR.out]; exact HBD.out)
      have HW3B := Lib.hid hs3r
      clear H b0 b1 b2
      go_wp2_with (first | (go_at_call 54; refine (sortOwn_any (d + 1) w0 wr w3.heap.size _ acc HX4S.out HW3B.out HAB.out HOWN.out).mono ?_; rintro e w5 ⟨⟨u5, rfl⟩, hr5, hb5⟩; have HR5 := Lib.hid hr5; have HB5 := Lib.hid (HB.out.trans hb5); clear hr5 hb5) | (go_at_call 57; refine (each57_any (d + 1) w5 _ (isort ltF acc) (HR5.out.mono (LiesF.below (HX4.out.trans (HB5.out.mono HX4S.out)) (d + 1)) (Below.refl _ _)) (by rw [isort_length]; exact HAB.out) (fun y hy => HST.out y (by rw [← HR.out]; exact isort_mem.1 hy))).mono ?_; rintro e w6 ⟨u6, rfl, hr6, hb6⟩; have HR6 := Lib.hid hr6; have HB6 := Lib.hid hb6; clear hr6 hb6))
      go_ret
      rw [← HR.out]
      have hle : w.heap.size ≤ w5.heap.size := Nat.le_trans (Nat.le_of_lt hsz3) HB5.out.size
      exact ⟨(HB4.out.trans (HB5.out.mono (Nat.le_of_lt hsz3))).trans (HB6.out.mono hle), _, rfl, HR6.out.fi (fun b hb => Nat.le_trans hle hb)⟩
end Go.Proofs.Ytcelpmojhjnggaa
