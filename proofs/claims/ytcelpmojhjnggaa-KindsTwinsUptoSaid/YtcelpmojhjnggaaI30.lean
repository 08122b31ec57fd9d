/- Methods, its answer one's own. -/
import Derived.Test.YtcelpmojhjnggaaI29
import Derived.Deep.Cut
import Derived.Deep.DeepCutAuto
import Derived.Deep.RegionHeld3
import Derived.BigRegion
import Derived.Deep.AppendLies
namespace Go.Proofs.Ytcelpmojhjnggaa
open Go Go.RowKit Go.Sort Go.Deep KindsP
set_option maxHeartbeats 4000000
set_option maxRecDepth 100000

theorem methf_ptr (d : Nat) (w0 w : World) (v vv : Value) (us : List Unt) (p n : ByteArray) (a1 a2 : Option Addr) (n1 c1 n2 c2 : Nat) (bv : Option Addr) (mv ev : Nat) (hvv : vv = .slice bv mv ev) (h : RowG 4 (LiesU w0 d) w0 v us) (hb0 : Below w0.heap.size w0 w) (hbd : (mOf n (declsO (unitF us p))).length ≤ 1000000) (hst : ∀ x ∈ mOf n (declsO (unitF us p)), sizT x.ty ≤ 1000000000) :
    Calls Try.prog 29 #[v, vv, .agg #[.int .i64 5, .string p, .string n, .slice a1 n1 c1, .slice a2 n2 c2]] w (MethPostF w (d + 1) (isort ltF (mOf n (declsO (unitF us p))))) := by
  subst hvv
  obtain ⟨i9, hi9, hz90, hz91, hz92⟩ := info_parts Try.info52'
  have HF := Lib.hid (face_any d w0 (w.alloc (.cells #[.int .i64 5, .string p, .string n, .slice a1 n1 c1, .slice a2 n2 c2] 31)) v us 5 p n a1 a2 n1 c1 n2 c2 h (hb0.alloc hb0.size _))
  have HFL := Lib.hid (show faceOk us 5 p n = false by unfold faceOk; simp)
  have HUN := Lib.hid (fun W (hb : Below w0.heap.size w0 W) => unit_any d w0 W v us p h hb)
  generalize hL : declsO (unitF us p) = ds at hbd hst ⊢
  have HDL := Lib.hid hL
  obtain ⟨a, c, rfl, _⟩ := h.form
  have H0 := Lib.hid hb0
  have hw0w := hb0.size
  have HBD := Lib.hid hbd
  have HST := Lib.hid hst
  have hfd := field74
  clear h hb0 hbd hst hL
  go_enter Try.func29, Try.ntmps29
  go_wp2_with (first | (go_at_call 52; refine HF.out.mono ?_; rintro e w2 ⟨hb2, kd, nm, of, vl, x0, x1, x2, x3, x4, x5, x6, x7, x8, xf, nf, cf, rfl, hl⟩; refine Hid.out ?_))
  refine Lib.hid ?_
  rw [HFL.out]
  obtain ⟨hk2, hbw⟩ := alloc_known hb2
  have hsz : w.heap.size < w2.heap.size := (Array.getElem?_eq_some_iff.1 hk2).1
  have HBX := Lib.hid (fun W (hb : Below w2.heap.size w2 W) => (show W.cell? ⟨w.heap.size, 0, none⟩ = some (.int .i64 5) ∧ W.cell? ⟨w.heap.size, 1, none⟩ = some (.string p) ∧ W.cell? ⟨w.heap.size, 2, none⟩ = some (.string n) from ⟨cell_on hb ((cell_of_row _ _ 0 _ _ _ hk2).trans rfl), cell_on hb ((cell_of_row _ _ 1 _ _ _ hk2).trans rfl), cell_on hb ((cell_of_row _ _ 2 _ _ _ hk2).trans rfl)⟩))
  have hb3 := hbw.alloc (Nat.le_of_lt hsz) (.cells #[.int .i64 kd, .string nm, .string of, .int .i64 vl, .int .i64 x0, .string x1, .string x2, .slice x3 x4 x5, .slice x6 x7 x8, .slice xf nf cf] 41)
  have H00 := H0.out.trans (hb3.mono hw0w)
  have HU2 := Lib.hid (HUN.out (w2.alloc (.cells #[.int .i64 kd, .string nm, .string of, .int .i64 vl, .int .i64 x0, .string x1, .string x2, .slice x3 x4 x5, .slice x6 x7 x8, .slice xf nf cf] 41)) H00)
  have HB3 := Lib.hid hb3
  have HX0 := Lib.hid H00
  have HW2 := Lib.hid (show Below w2.heap.size w2 (w2.alloc (.cells #[.int .i64 kd, .string nm, .string of, .int .i64 vl, .int .i64 x0, .string x1, .string x2, .slice x3 x4 x5, .slice x6 x7 x8, .slice xf nf cf] 41)) from (Below.refl _ _).alloc (Nat.le_refl _) _)
  obtain ⟨b0, b1, b2⟩ := HBX.out w2 (Below.refl _ _)
  clear hb2 hk2 hbw hl hb3 H00 HUN
  go_wp2_with (first | (go_at_call 49; refine HU2.out.mono ?_; rintro e w3 ⟨hb3, us0, vi, vd, vb, rfl, hrd⟩; refine Hid.out ?_))
  refine Lib.hid ?_
  rw [HDL.out] at hrd
  obtain ⟨ad, cd, rfl, hcd, hmd, hdf⟩ := hrd.form
  have hld := Nat.le_trans hcd hmd
  unfold maxLen at hld
  have HD := Lib.hid hrd
  have HW3 := Lib.hid (HW2.out.trans (hb3.mono HW2.out.size))
  have HB4 := Lib.hid (HB3.out.trans (hb3.mono HB3.out.size))
  have HX4 := Lib.hid (HX0.out.trans (hb3.mono HX0.out.size))
  have hsz3 : w.heap.size < w3.heap.size := Nat.lt_of_lt_of_le hsz HW3.out.size
  have HX4S := Lib.hid HX4.out.size
  clear hrd hb3 HU2 b0 b1 b2
  go_wp2_with fail
  go_loopw [7, 41] (fun ov iv wr => ∃ (k : Nat) (acc : List Fld), k ≤ ds.length ∧ iv = .int .i64 k ∧ OwnF w0 (d + 1) wr w3.heap.size ov acc ∧ Below w3.heap.size w3 wr ∧ Hid (acc ++ mOf n (ds.drop k) = mOf n ds)) (fun _ iv _ => ds.length - (intOf iv).toNat)
  case atStart => exact ⟨0, [], by omega, rfl, OwnF.nil _ _ _ _, Below.refl _ _, rfl⟩
  case round =>
    obtain ⟨k, acc, hk, rfl, hown, hb, H⟩ := hrel
    have HB := Lib.hid hb
    have HOWN := Lib.hid hown
    obtain ⟨cells, hoc, hcells⟩ := hown
    obtain ⟨al, hal⟩ : ∃ al, acc.length = al := ⟨_, rfl⟩
    rw [hal] at hoc
    have HAL := Lib.hid hal
    obtain ⟨ao, cap, rfl⟩ := own_shape hoc
    have HO := Lib.hid hoc
    have HCE := Lib.hid hcells
    obtain ⟨b0, b1, b2⟩ := HBX.out wr (HW3.out.trans (hb.mono HW3.out.size))
    have H00 := Lib.hid (HX4.out.trans (hb.mono HX4S.out))
    have hszr : w.heap.size < wr.heap.size := Nat.lt_of_lt_of_le hsz3 hb.size
    have hs3r := hb.size
    clear hb hoc hcells hal
    by_cases hlt : k < ds.length
    · obtain ⟨b, o, rfl⟩ := hdf (by omega)
      obtain ⟨cs, ⟨z0, z1, z2, z3, z4, vf, rfl, hty, hfs⟩, hcs⟩ := HD.out.get k ds[k] (by simp)
      have HE := Lib.hid (mOf_at n ds k hlt)
      obtain ⟨x, hx⟩ : ∃ x, ds[k] = x := ⟨_, rfl⟩
      rw [hx] at HE hty hfs hcs
      obtain ⟨dk, dn, dof, dv, t, fs⟩ := x
      dsimp only at HE hty hfs hcs
      obtain ⟨y0, y1, y2, y3, y4, y5, y6, y7, y8, rfl, rfl, rfl, rfl, rfl⟩ := lies_form hty
      obtain ⟨af, cf, rfl, _⟩ := hfs.form
      have HX : Hid (LiesF w0 (d + 1) [.string dn, .int .i64 y0, .string y1, .string y2, .slice y3 y4 y5, .slice y6 y7 y8] ⟨dn, t⟩) := Lib.hid ⟨_, _, _, _, _, rfl, hty.le (Nat.le_succ _)⟩
      have g0 := cell_on H00.out (hcs 0 _ rfl)
      rw [Nat.add_zero] at g0
      have g1 := cell_on H00.out (hcs 1 _ rfl)
      have g2 := cell_on H00.out (hcs 2 _ rfl)
      have g3 := cell_on H00.out (hcs 3 _ rfl)
      have g4 := cell_on H00.out (hcs 4 _ rfl)
      have g5 := cell_on H00.out (hcs 5 _ rfl)
      have g6 := cell_on H00.out (hcs 6 _ rfl)
      have g7 := cell_on H00.out (hcs 7 _ rfl)
      have g8 := cell_on H00.out (hcs 8 _ rfl)
      have g9 := cell_on H00.out (hcs 9 _ rfl)
      clear hcs hty hfs hx
      cases hc : ((dk == 6) && (dof == n))
      · have HR := Lib.hid (show acc ++ mOf n (ds.drop (k + 1)) = mOf n ds by rw [← H.out, HE.out, if_neg (by rw [hc]; simp)])
        clear H HE
        cases hk6 : (dk == 6)
        · clear hc
          go_wp2_with fail
          exact ⟨⟨k + 1, acc, by omega, by go_num, HOWN.out.below ((Below.refl _ _).alloc (Nat.le_refl _) _), HB.out.alloc hs3r _, HR⟩, by simp [intOf]; omega⟩
        · rw [hk6, Bool.true_and] at hc
          have hp' : (dof.toList == n.toList) = false := by simpa using list_eq hc
          clear hc
          go_wp2_with fail
          exact ⟨⟨k + 1, acc, by omega, by go_num, HOWN.out.below ((Below.refl _ _).alloc (Nat.le_refl _) _), HB.out.alloc hs3r _, HR⟩, by simp [intOf]; omega⟩
      · have HR := Lib.hid (show (acc ++ [⟨dn, t⟩]) ++ mOf n (ds.drop (k + 1)) = mOf n ds by rw [← H.out, HE.out, if_pos hc]; simp)
        have HAB : Hid (al ≤ 1000000) := Lib.hid (by
          have := congrArg List.length HR.out
          rw [List.length_append, List.length_append, HAL.out] at this
          have h2 := HBD.out
          omega)
        have halb := HAB.out
        rw [Bool.and_eq_true] at hc
        obtain ⟨hk6, hnm⟩ := hc
        have hp' := list_eq' hnm
        clear H HE hnm
        go_wp2_with (first | (at_builtin; refine wpList_append_lies _ rfl (.tmp 55) (.tmp 61) 39 rfl w3.heap.size 52 i9 _ 6 104 Try.underlying39 hi9 hz90 hz91 hz92 rfl (by decide) _ al _ rfl ((own_below HO.out ((Below.refl _ _).alloc (Nat.le_refl _) _)).alloc _) ⟨wr.heap.size + 1, 0, none⟩ 1 1 [.string dn, .int .i64 y0, .string y1, .string y2, .slice y3 y4 y5, .slice y6 y7 y8] rfl rfl (World.news_of_block (cs := #[.string dn, .int .i64 y0, .string y1, .string y2, .slice y3 y4 y5, .slice y6 y7 y8]) (t := 52) (fr := (0, 0)) (alloc_known2 (w := wr) (cs := #[.int .i64 dk, .string dn, .string dof, .int .i64 dv, .int .i64 y0, .string y1, .string y2, .slice y3 y4 y5, .slice y6 y7 y8, .slice af fs.length cf]) (ds := #[.string dn, .int .i64 y0, .string y1, .string y2, .slice y3 y4 y5, .slice y6 y7 y8]) (t := 41) (u := 52) (fr := (0, 0)) (gr := (0, 0)) (Below.refl _ _)).2.1) (by simp [Value.oneCell']) (by omega) (by unfold maxLen; omega) (by omega) (by simp; omega) (wr.heap.size + 1 + 1) (by simp) ?_; intro gg cp w5 hown3 hgrow hat hlt3; have HOW := Lib.hid hown3; have HG : Hid (((wr.alloc (.cells #[.int .i64 dk, .string dn, .string dof, .int .i64 dv, .int .i64 y0, .string y1, .string y2, .slice y3 y4 y5, .slice y6 y7 y8, .slice af fs.length cf] 41)).alloc (.cells #[.string dn, .int .i64 y0, .string y1, .string y2, .slice y3 y4 y5, .slice y6 y7 y8] 52)).grownBy w5 (Value.slice ao al cap).ownBlock) := hgrow; clear hown3 hgrow hat hlt3))
        refine ⟨⟨k + 1, acc ++ [⟨dn, t⟩], by omega, by go_num, ⟨_, by rw [List.length_append, HAL.out]; exact HOW.out, HCE.out.snoc (by rw [HO.out.1, HAL.out]) _ _ _ _ _ _ ⟨dn, t⟩ HX.out⟩, ?_, HR⟩, by simp [intOf]; omega⟩
        exact ((HB.out.alloc hs3r _).alloc (by simp; omega) _).grown HG.out (by simp; omega) (fun g hg => (HO.out.lt g hg).1)
    · have HR := Lib.hid (show acc = mOf n ds by rw [← H.out, List.drop_eq_nil_of_le (by omega)]; simp [mOf])
      have HAB : Hid (acc.length ≤ 1000000) := Lib.hid (by rw [HR.out]; exact HBD.out)
      have HW3B := Lib.hid hs3r
      clear H b0 b1 b2
      go_wp2_with (first | (go_at_call 54; refine (sortOwn_any (d + 1) w0 wr w3.heap.size _ acc HX4S.out HW3B.out HAB.out HOWN.out).mono ?_; rintro e w5 ⟨⟨u5, rfl⟩, hr5, hb5⟩; have HR5 := Lib.hid hr5; have HB5 := Lib.hid (HB.out.trans hb5); clear hr5 hb5) | (go_at_call 57; refine (each57f_any (d + 1) w5 _ (isort ltF acc) (HR5.out.mono (LiesF.below (HX4.out.trans (HB5.out.mono HX4S.out)) (d + 1)) (Below.refl _ _)) (by rw [isort_length]; exact HAB.out) (fun y hy => HST.out y (by rw [← HR.out]; exact isort_mem.1 hy))).mono ?_; rintro e w6 ⟨u6, rfl, hr6, hb6⟩; have HR6 := Lib.hid hr6; have HB6 := Lib.hid hb6; clear hr6 hb6))
      go_ret
      rw [← HR.out]
      have hle : w.heap.size ≤ w5.heap.size := Nat.le_trans (Nat.le_of_lt hsz3) HB5.out.size
      exact ⟨(HB4.out.trans (HB5.out.mono (Nat.le_of_lt hsz3))).trans (HB6.out.mono hle), _, rfl, HR6.out.base (hle)⟩
end Go.Proofs.Ytcelpmojhjnggaa

/- The document's Methods. -/
namespace Go.Proofs.Ytcelpmojhjnggaa
open Go Go.RowKit Go.Sort Go.Deep KindsP
set_option maxHeartbeats 4000000
set_option maxRecDepth 100000

theorem lies_head {w : World} {d : Nat} {k : Int} {p n : ByteArray} {x3 x4 : Value} {t : Ty} (h : Lies w d (.agg #[.int .i64 k, .string p, .string n, x3, x4]) t) : Ty.kd t = k ∧ Ty.pk t = p ∧ Ty.nm t = n := by
  obtain ⟨_, k', p', n', _, _, _, _, _, _, _, _, _, rfl, h0, h1, h2, _⟩ := lies_at h
  cases h0; cases h1; cases h2
  exact ⟨rfl, rfl, rfl⟩
theorem meth_var (d : Nat) (w0 w : World) (v vv : Value) (us : List Unt) (vars : List Fld) (p n : ByteArray) (a1 a2 : Option Addr) (n1 c1 n2 c2 : Nat) (h : RowG 4 (LiesU w0 d) w0 v us) (hv : RowG 6 (LiesF w0 d) w0 vv vars) (hb0 : Below w0.heap.size w0 w) (hbd : ∀ p n, (baseL us 8 p n).length ≤ 1000000) (hst : ∀ p n, ∀ x ∈ baseL us 8 p n, sizT x.ty ≤ 1000000000) :
    Calls Try.prog 29 #[v, vv, .agg #[.int .i64 9, .string p, .string n, .slice a1 n1 c1, .slice a2 n2 c2]] w (MethPost w (d + 1) (methL us vars 9 p n)) := by
  have hb1 : Below w.heap.size w (w.alloc (.cells #[.int .i64 9, .string p, .string n, .slice a1 n1 c1, .slice a2 n2 c2] 31)) := (Below.refl _ _).alloc (Nat.le_refl _) _
  have HMU := Lib.hid (must_any d w0 (w.alloc (.cells #[.int .i64 9, .string p, .string n, .slice a1 n1 c1, .slice a2 n2 c2] 31)) vv vars n hv (hb0.alloc hb0.size _))
  have HM := Lib.hid (show methL us vars 9 p n = (if Ty.kd (tyO (findF vars n)) = 8 then isort ltF (baseL us 8 (Ty.pk (tyO (findF vars n))) (Ty.nm (tyO (findF vars n)))) else []) by unfold methL; rw [if_pos rfl])
  have HF := Lib.hid (fun W (hb : Below w0.heap.size w0 W) p n a1 a2 n1 c1 n2 c2 => face_any d w0 W v us 8 p n a1 a2 n1 c1 n2 c2 h hb)
  have HBL0 := Lib.hid (fun p n => (show baseL us 8 p n = if faceOk us 8 p n = true then (faceD us 8 p n).fields else [] by
    unfold baseL faceOk faceD
    rw [if_neg (by decide)]
    simp))
  obtain ⟨M, hM⟩ : ∃ M, methL us vars 9 p n = M := ⟨_, rfl⟩
  have HML := Lib.hid hM
  rw [hM]
  obtain ⟨a, c, rfl, _⟩ := h.form
  obtain ⟨bv, ev, rfl, _⟩ := hv.form
  have H0 := Lib.hid hb0
  have hw0w := hb0.size
  have HBD := Lib.hid hbd
  have HST := Lib.hid hst
  clear h hv hb0 hb1 hbd hst hM
  go_enter Try.func29, Try.ntmps29
  go_wp2_with (first | (go_at_call 51; refine HMU.out.mono ?_; rintro e w2 ⟨hb2, t0, t1, t2, t3, t4, t5, t6, t7, t8, rfl, hl⟩; refine Hid.out ?_))
  refine Lib.hid ?_
  obtain ⟨hk2, hbw⟩ := alloc_known hb2
  have hsz : w.heap.size < w2.heap.size := (Array.getElem?_eq_some_iff.1 hk2).1
  obtain ⟨h0, h1, h2⟩ := lies_head hl
  have HMT : Hid (M = if t0 = 8 then isort ltF (baseL us 8 t1 t2) else []) := Lib.hid (by rw [← HML.out, HM.out, h0, h1, h2])
  have b0 : w2.cell? ⟨w.heap.size, 0, none⟩ = some (.int .i64 9) := (cell_of_row _ _ 0 _ _ _ hk2).trans rfl
  have b1 : w2.cell? ⟨w.heap.size, 1, none⟩ = some (.string p) := (cell_of_row _ _ 1 _ _ _ hk2).trans rfl
  have b2 : w2.cell? ⟨w.heap.size, 2, none⟩ = some (.string n) := (cell_of_row _ _ 2 _ _ _ hk2).trans rfl
  have b3 : w2.cell? ⟨w.heap.size, 3, none⟩ = some (.slice a1 n1 c1) := (cell_of_row _ _ 3 _ _ _ hk2).trans rfl
  have b4 : w2.cell? ⟨w.heap.size, 4, none⟩ = some (.slice a2 n2 c2) := (cell_of_row _ _ 4 _ _ _ hk2).trans rfl
  have fz : ∀ i, w2.frozen? ⟨w.heap.size, i, none⟩ = false := fun i => by simp [World.frozen?, hk2]
  have HX2 := Lib.hid (H0.out.trans (hbw.mono hw0w))
  have HBW := Lib.hid hbw
  have HK2 := Lib.hid hk2
  clear hb2 hk2 hbw hl h0 h1 h2 HMU HM HML
  by_cases h8 : t0 = 8
  · subst h8
    rw [if_pos rfl] at HMT
    obtain ⟨L, hL⟩ : ∃ L, baseL us 8 t1 t2 = L := ⟨_, rfl⟩
    obtain ⟨fl, hfl⟩ : ∃ fl, faceOk us 8 t1 t2 = fl := ⟨_, rfl⟩
    obtain ⟨x, hx⟩ : ∃ x, faceD us 8 t1 t2 = x := ⟨_, rfl⟩
    have HBL := Lib.hid (HBL0.out t1 t2)
    have HBD1 := Lib.hid (HBD.out t1 t2)
    have HST1 := Lib.hid (HST.out t1 t2)
    rw [hL] at HMT HBD1 HST1 HBL
    rw [hfl, hx] at HBL
    have HFL := Lib.hid hfl
    have HXE := Lib.hid hx
    have HX3 := Lib.hid (below_set5 HX2.out hw0w (.int .i64 8) (.string t1) (.string t2) (.slice t3 t4 t5) (.slice t6 t7 t8))
    clear hfl hx hL HBL0
    go_wp2_with (first | (go_at_call 52; refine (HF.out (((((w2.setCell ⟨w.heap.size, 0, none⟩ (.int .i64 8)).setCell ⟨w.heap.size, 1, none⟩ (.string t1)).setCell ⟨w.heap.size, 2, none⟩ (.string t2)).setCell ⟨w.heap.size, 3, none⟩ (.slice t3 t4 t5)).setCell ⟨w.heap.size, 4, none⟩ (.slice t6 t7 t8)) HX3.out t1 t2 t3 t6 t4 t5 t7 t8).mono ?_; rintro e w4 ⟨hb4, kd, nm, of, vl, x0, x1, x2, x3, x4, x5, x6, x7, x8, xf, nf, cf, rfl, hl⟩; refine Hid.out ?_))
    refine Lib.hid ?_
    rw [HFL.out]
    rw [HXE.out] at hl
    have hbx := setAt (i := 4) (.slice t6 t7 t8) (setAt (i := 3) (.slice t3 t4 t5) (setAt (i := 2) (.string t2) (setAt (i := 1) (.string t1) (setAt (i := 0) (.int .i64 8) HK2.out))))
    have hbw3 := below_set5 HBW.out (Nat.le_refl _) (.int .i64 8) (.string t1) (.string t2) (.slice t3 t4 t5) (.slice t6 t7 t8)
    have hx3 := HX3.out
    generalize (((((w2.setCell ⟨w.heap.size, 0, none⟩ (.int .i64 8)).setCell ⟨w.heap.size, 1, none⟩ (.string t1)).setCell ⟨w.heap.size, 2, none⟩ (.string t2)).setCell ⟨w.heap.size, 3, none⟩ (.slice t3 t4 t5)).setCell ⟨w.heap.size, 4, none⟩ (.slice t6 t7 t8)) = w3 at hb4 hbx hbw3 hx3
    have hsz3 : w.heap.size < w3.heap.size := (Array.getElem?_eq_some_iff.1 hbx).1
    have hc3 : w3.cell? ⟨w.heap.size, 0, none⟩ = some (.int .i64 8) := by simp [World.cell?, hbx]
    have HBX := Lib.hid (fun W (hb : Below w3.heap.size w3 W) => (show W.cell? ⟨w.heap.size, 0, none⟩ = some (.int .i64 8) from cell_on hb hc3))
    obtain ⟨z0, z1, z2, z3, z4, vf, e, _, hfs⟩ := hl
    have hvf : some (Value.slice xf nf cf) = some vf := congrArg (fun l : List Value => l[9]?) e
    obtain rfl := Option.some.inj hvf
    clear e hvf
    have HN4 := Lib.hid (show Below w3.heap.size w3 (w4.alloc (.cells #[.int .i64 kd, .string nm, .string of, .int .i64 vl, .int .i64 x0, .string x1, .string x2, .slice x3 x4 x5, .slice x6 x7 x8, .slice xf nf cf] 41)) from hb4.alloc hb4.size _)
    have hb3 := hbw3.trans (HN4.out.mono (Nat.le_of_lt hsz3))
    have H00 := hx3.trans (HN4.out.mono hx3.size)
    have HB3 := Lib.hid hb3
    have HWW := Lib.hid hb3.size
    have HW0 := Lib.hid H00.size
    have HX0 := Lib.hid H00
    have hsz4 : w.heap.size < w4.heap.size := Nat.lt_of_lt_of_le hsz3 hb4.size
    have c0' := HBX.out w4 hb4
    cases fl with
    | true =>
      rw [if_pos rfl] at HBL
      have HCL := Lib.hid (clone53_any (d + 1) w0 (w4.alloc (.cells #[.int .i64 kd, .string nm, .string of, .int .i64 vl, .int .i64 x0, .string x1, .string x2, .slice x3 x4 x5, .slice x6 x7 x8, .slice xf nf cf] 41)) _ L (by rw [HBL.out]; exact hfs) H00 HBD1.out)
      clear hb4 hbx hbw3 hx3 hfs hb3 H00 hc3 b0 b1 b2 b3 b4 fz
      go_wp2_with (first | (go_at_call 53; refine HCL.out.mono ?_; rintro e w5 ⟨hb5, u5, rfl, ho5⟩; have c0 := HBX.out w5 (HN4.out.trans (hb5.mono HN4.out.size)); obtain ⟨cl5, hoc5, _⟩ := id ho5; obtain ⟨ao5, cp5, rfl⟩ := own_shape hoc5; have HO5 := Lib.hid ho5; have HB5 := Lib.hid hb5; clear hb5 ho5 hoc5) | (go_at_call 54; refine (sortOwn_any (d + 1) w0 w5 (w4.alloc (.cells #[.int .i64 kd, .string nm, .string of, .int .i64 vl, .int .i64 x0, .string x1, .string x2, .slice x3 x4 x5, .slice x6 x7 x8, .slice xf nf cf] 41)).heap.size _ L HW0.out HB5.out.size HBD1.out HO5.out).mono ?_; rintro e w6 ⟨⟨u6, rfl⟩, hr6, hb6⟩; have HR6 := Lib.hid hr6; have HB6 := Lib.hid (HB5.out.trans hb6); clear hr6 hb6) | (go_at_call 57; refine (each57_any (d + 1) w6 _ (isort ltF L) (HR6.out.mono (LiesF.below (HX0.out.trans (HB6.out.mono HW0.out)) (d + 1)) (Below.refl _ _)) (by rw [isort_length]; exact HBD1.out) (fun y hy => HST1.out y (isort_mem.1 hy))).mono ?_; rintro e w7 ⟨u7, rfl, hr7, hb7⟩; have HR7 := Lib.hid hr7; have HB7 := Lib.hid hb7; clear hr7 hb7))
      go_ret
      rw [HMT.out]
      exact ⟨(HB3.out.trans (HB6.out.mono HWW.out)).trans (HB7.out.mono (Nat.le_trans HWW.out HB6.out.size)), _, rfl, HR7.out.fi (fun b hb => Nat.le_trans (Nat.le_trans HWW.out HB6.out.size) hb)⟩
    | false =>
      rw [if_neg (by decide)] at HBL
      clear hb4 hbx hbw3 hx3 hfs hb3 H00 hc3 b0 b1 b2 b3 b4 fz
      go_wp2_with (first | (go_at_call 54; refine (sortOwn_any (d + 1) w0 (w4.alloc (.cells #[.int .i64 kd, .string nm, .string of, .int .i64 vl, .int .i64 x0, .string x1, .string x2, .slice x3 x4 x5, .slice x6 x7 x8, .slice xf nf cf] 41)) (w4.alloc (.cells #[.int .i64 kd, .string nm, .string of, .int .i64 vl, .int .i64 x0, .string x1, .string x2, .slice x3 x4 x5, .slice x6 x7 x8, .slice xf nf cf] 41)).heap.size _ [] HW0.out (Nat.le_refl _) (by simp) (OwnF.nil _ _ _ _)).mono ?_; rintro e w6 ⟨⟨u6, rfl⟩, hr6, hb6⟩; have HR6 := Lib.hid hr6; have HB6 := Lib.hid hb6; clear hr6 hb6) | (go_at_call 57; refine (each57_any (d + 1) w6 _ (isort ltF []) (HR6.out.mono (LiesF.below (HX0.out.trans (HB6.out.mono HW0.out)) (d + 1)) (Below.refl _ _)) (by rw [isort_length]; simp) (fun y hy => by cases isort_mem.1 hy)).mono ?_; rintro e w7 ⟨u7, rfl, hr7, hb7⟩; have HR7 := Lib.hid hr7; have HB7 := Lib.hid hb7; clear hr7 hb7))
      go_ret
      rw [HMT.out, HBL.out]
      exact ⟨(HB3.out.trans (HB6.out.mono HWW.out)).trans (HB7.out.mono (Nat.le_trans HWW.out HB6.out.size)), _, rfl, HR7.out.fi (fun b hb => Nat.le_trans (Nat.le_trans HWW.out HB6.out.size) hb)⟩
  · have hne : (t0 != 8) = true := by simpa using h8
    rw [if_neg h8] at HMT
    clear h8
    go_wp2_with fail
    go_ret
    rw [HMT.out]
    exact ⟨below_set5 HBW.out (Nat.le_refl _) _ _ _ _ _, _, rfl, RowG.nil _ _ _⟩
theorem meth_any (d : Nat) (w0 w : World) (v vv : Value) (us : List Unt) (vars : List Fld) (k : Int) (p n : ByteArray) (a1 a2 : Option Addr) (n1 c1 n2 c2 : Nat) (h : RowG 4 (LiesU w0 d) w0 v us) (hv : RowG 6 (LiesF w0 d) w0 vv vars) (hb0 : Below w0.heap.size w0 w) (hbd : ∀ k p n, (baseL us k p n).length ≤ 1000000) (hst : ∀ k p n, ∀ x ∈ baseL us k p n, sizT x.ty ≤ 1000000000) :
    Calls Try.prog 29 #[v, vv, .agg #[.int .i64 k, .string p, .string n, .slice a1 n1 c1, .slice a2 n2 c2]] w (MethPost w (d + 1) (methL us vars k p n)) := by
  by_cases h9 : k = 9
  · subst h9
    exact meth_var d w0 w v vv us vars p n a1 a2 n1 c1 n2 c2 h hv hb0 (hbd 8) (hst 8)
  · have hM : methL us vars k p n = isort ltF (baseL us k p n) := by unfold methL; rw [if_neg h9]
    rw [hM]
    obtain ⟨bv, ev, rfl, _⟩ := hv.form
    by_cases h5 : k = 5
    · subst h5
      have hB : baseL us 5 p n = mOf n (declsO (unitF us p)) := by unfold baseL; rw [if_pos rfl]
      have h1 := hbd 5 p n
      have h2 := hst 5 p n
      rw [hB] at h1 h2 ⊢
      exact meth_ptr d w0 w v _ us p n a1 a2 n1 c1 n2 c2 bv _ ev rfl h hb0 h1 h2
    · exact meth_plain d w0 w v _ us k p n a1 a2 n1 c1 n2 c2 bv _ ev rfl h hb0 h5 h9 (hbd k p n) (hst k p n)
end Go.Proofs.Ytcelpmojhjnggaa
