/- Declarations by their names: Find; the number of a unit. -/
import Derived.Test.YtcelpmojhjnggaaI06
namespace Go.Proofs.Ytcelpmojhjnggaa
open Go Go.RowKit Go.Sort KindsP
set_option maxHeartbeats 4000000
set_option maxRecDepth 100000

theorem field74 (s vi vd vb : Value) (w : World) : (Instr.field 74 (.agg #[s, vi, vd, vb]) 2).run Try.prog w = .ok vd w := by kernel_rfl
theorem kfind_any (d : Nat) (w0 w : World) (v : Value) (us : List Unt) (p n : ByteArray) (h : RowG 4 (LiesU w0 d) w0 v us) (hb0 : Below w0.heap.size w0 w) : Calls Try.prog 25 #[v, .string p, .string n] w (FindPost w0 w d (findU us p n)) := by
  have HU := Lib.hid (unit_any d w0 (w.alloc (.cells #[.int .i64 0, .string ⟨#[]⟩, .string ⟨#[]⟩, .int .i64 0, .int .i64 0, .string ⟨#[]⟩, .string ⟨#[]⟩, .slice none 0 0, .slice none 0 0, .slice none 0 0] 41)) v us p h (hb0.alloc hb0.size _))
  have HI : Hid (findU us p n = findD (declsO (unitF us p)) n) := Lib.hid rfl
  generalize declsO (unitF us p) = ds0 at HI
  obtain ⟨a, c, rfl, hcc, hcm, hf⟩ := h.form
  have H0 := Lib.hid hb0
  have hfd := field74
  clear h hb0 hf
  go_enter Try.func25, Try.ntmps25
  go_wp2_with (first | (go_at_call 49; refine HU.out.mono ?_; rintro e w2 ⟨hb2, s, vi, vd, vb, rfl, hrd⟩; refine Hid.out ?_))
  refine Lib.hid ?_
  obtain ⟨hk2, hbw⟩ := alloc_known hb2
  obtain ⟨ds, hds⟩ : ∃ ds, declsO (unitF us p) = ds := ⟨_, rfl⟩
  have HI : Hid (findU us p n = findD ds n) := Lib.hid (by unfold findU; rw [hds])
  rw [hds] at hrd
  obtain ⟨ad, cd, rfl, hcd, hmd, hdf⟩ := hrd.form
  have hld := Nat.le_trans hcd hmd
  unfold maxLen at hld
  have HD := Lib.hid hrd
  have HK2 := Lib.hid hk2
  have HBW := Lib.hid hbw
  have HLT : Hid (w.heap.size < w2.heap.size) := Lib.hid (Array.getElem?_eq_some_iff.1 hk2).1
  clear hrd hk2 hbw hb2 hds HU
  go_wp2_with fail
  go_loopw [15] (fun iv wr => ∃ (k : Nat), k ≤ ds.length ∧ iv = .int .i64 k ∧ Below w2.heap.size w2 wr ∧ Hid (findU us p n = findD (ds.drop k) n)) (fun iv _ => ds.length - (intOf iv).toNat)
  case atStart => exact ⟨0, by omega, rfl, Below.refl _ _, HI.out⟩
  case round =>
    obtain ⟨k, hk, rfl, hb, H⟩ := hrel
    have hbox : wr.heap[w.heap.size]? = _ := (hb.block w.heap.size HLT.out).trans HK2.out
    have d0 : wr.cell? ⟨w.heap.size, 0, none⟩ = some (.int .i64 0) := by simp [World.cell?, hbox]
    have d1 : wr.cell? ⟨w.heap.size, 1, none⟩ = some (.string ⟨#[]⟩) := by simp [World.cell?, hbox]
    have d2 : wr.cell? ⟨w.heap.size, 2, none⟩ = some (.string ⟨#[]⟩) := by simp [World.cell?, hbox]
    have d3 : wr.cell? ⟨w.heap.size, 3, none⟩ = some (.int .i64 0) := by simp [World.cell?, hbox]
    have d4 : wr.cell? ⟨w.heap.size, 4, none⟩ = some (.int .i64 0) := by simp [World.cell?, hbox]
    have d5 : wr.cell? ⟨w.heap.size, 5, none⟩ = some (.string ⟨#[]⟩) := by simp [World.cell?, hbox]
    have d6 : wr.cell? ⟨w.heap.size, 6, none⟩ = some (.string ⟨#[]⟩) := by simp [World.cell?, hbox]
    have d7 : wr.cell? ⟨w.heap.size, 7, none⟩ = some (.slice none 0 0) := by simp [World.cell?, hbox]
    have d8 : wr.cell? ⟨w.heap.size, 8, none⟩ = some (.slice none 0 0) := by simp [World.cell?, hbox]
    have d9 : wr.cell? ⟨w.heap.size, 9, none⟩ = some (.slice none 0 0) := by simp [World.cell?, hbox]
    have fz : ∀ i, wr.frozen? ⟨w.heap.size, i, none⟩ = false := fun i => by simp [World.frozen?, hbox]
    have hsz : w.heap.size < wr.heap.size := Nat.lt_of_lt_of_le HLT.out hb.size
    have HB := Lib.hid hb
    have HW := Lib.hid (HBW.out.trans (hb.mono (Nat.le_of_lt HLT.out)))
    clear hb hbox
    by_cases hlt : k < ds.length
    · obtain ⟨b, o, rfl⟩ := hdf (by omega)
      obtain ⟨cs, ⟨z0, z1, z2, z3, z4, vf, rfl, hty, hfs⟩, hcs⟩ := HD.out.get k ds[k] (by simp)
      have HE := Lib.hid (findD_at ds n k hlt)
      obtain ⟨x, hx⟩ : ∃ x, ds[k] = x := ⟨_, rfl⟩
      rw [hx] at HE hty hfs hcs
      obtain ⟨kd, nm, of, vl, t, fs⟩ := x
      dsimp only at HE hty hfs hcs
      obtain ⟨x0, x1, x2, x3, x4, x5, x6, x7, x8, rfl, rfl, rfl, rfl, rfl⟩ := lies_form hty
      obtain ⟨af, cf, rfl, _⟩ := hfs.form
      have HX : Hid (LiesD w0 d [.int .i64 kd, .string nm, .string of, .int .i64 vl, .int .i64 x0, .string x1, .string x2, .slice x3 x4 x5, .slice x6 x7 x8, .slice af fs.length cf] ⟨kd, nm, of, vl, t, fs⟩) := Lib.hid ⟨_, _, _, _, _, _, rfl, hty, hfs⟩
      have hb00 := H0.out.trans (HW.out.mono H0.out.size)
      have g0 := cell_on hb00 (hcs 0 _ rfl)
      rw [Nat.add_zero] at g0
      have g1 := cell_on hb00 (hcs 1 _ rfl)
      have g2 := cell_on hb00 (hcs 2 _ rfl)
      have g3 := cell_on hb00 (hcs 3 _ rfl)
      have g4 := cell_on hb00 (hcs 4 _ rfl)
      have g5 := cell_on hb00 (hcs 5 _ rfl)
      have g6 := cell_on hb00 (hcs 6 _ rfl)
      have g7 := cell_on hb00 (hcs 7 _ rfl)
      have g8 := cell_on hb00 (hcs 8 _ rfl)
      have g9 := cell_on hb00 (hcs 9 _ rfl)
      clear hcs hty hfs hx hb00
      cases hc : ((kd != 6) && (nm == n))
      · have HR := Lib.hid (show findU us p n = findD (ds.drop (k + 1)) n by rw [H.out, HE.out, if_neg (by rw [hc]; simp)])
        clear H HE
        cases hk6 : (kd != 6)
        · clear hc
          go_wp2_with fail
          exact ⟨⟨k + 1, by omega, by go_num, HB.out.alloc HB.out.size _, HR⟩, by simp [intOf]; omega⟩
        · rw [hk6, Bool.true_and] at hc
          have hp' : (nm.toList == n.toList) = false := by simpa using list_eq hc
          clear hc
          go_wp2_with fail
          exact ⟨⟨k + 1, by omega, by go_num, HB.out.alloc HB.out.size _, HR⟩, by simp [intOf]; omega⟩
      · have HR := Lib.hid (show findU us p n = some ⟨kd, nm, of, vl, t, fs⟩ by rw [H.out, HE.out, if_pos hc])
        rw [Bool.and_eq_true] at hc
        obtain ⟨hk6, hnm⟩ := hc
        have hp' := list_eq' hnm
        clear H HE hnm
        go_wp2_with fail
        refine bodyPost_ret (v := .tuple #[.agg #[.int .i64 kd, .string nm, .string of, .int .i64 vl, .int .i64 x0, .string x1, .string x2, .slice x3 x4 x5, .slice x6 x7 x8, .slice af fs.length cf], .bool true]) (by simp [results, Try.results25, go_sem, hsz, d0, d1, d2, d3, d4, d5, d6, d7, d8, d9]) rfl ?_
        rw [HR.out]
        refine ⟨?_, _, rfl, HX.out⟩
        exact (below_set10 HW.out (Nat.le_refl _) _ _ _ _ _ _ _ _ _ _).alloc (by simp; omega) _
    · have HR := Lib.hid (show findU us p n = none by rw [H.out, List.drop_eq_nil_of_le (by omega), findD])
      clear H
      go_wp2_with fail
      refine bodyPost_ret (v := .tuple #[.agg #[.int .i64 0, .string ⟨#[]⟩, .string ⟨#[]⟩, .int .i64 0, .int .i64 0, .string ⟨#[]⟩, .string ⟨#[]⟩, .slice none 0 0, .slice none 0 0, .slice none 0 0], .bool false]) (by simp [results, Try.results25, go_sem, d0, d1, d2, d3, d4, d5, d6, d7, d8, d9]) rfl ?_
      rw [HR.out]
      exact ⟨below_set10 HW.out (Nat.le_refl _) _ _ _ _ _ _ _ _ _ _, rfl⟩
/-- the number of the first unit of a package -/
def UnitIs (us : List Unt) (p : ByteArray) (i : Int) : Prop := match unitF us p with
  | none => i = -1
  | some u => ∃ k : Nat, i = k ∧ us[k]? = some u
theorem runit_any (d : Nat) (w0 w : World) (v : Value) (us : List Unt) (p : ByteArray) (h : RowG 4 (LiesU w0 d) w0 v us) (hb0 : Below w0.heap.size w0 w) : Calls Try.prog 50 #[v, .string p] w fun e w' => (∃ i, e = .returned (.int .i64 i) ∧ UnitIs us p i) ∧ w' = w := by
  obtain ⟨a, c, rfl, hcc, hcm, hf⟩ := h.form
  have hll := Nat.le_trans hcc hcm
  unfold maxLen at hll
  have HA := Lib.hid h
  have H0 := Lib.hid hb0
  clear h hb0
  go_enter Try.func50, Try.ntmps50
  go_wp2_with fail
  go_loopw [5] (fun iv wr => ∃ (k : Nat), k ≤ us.length ∧ iv = .int .i64 k ∧ wr = w ∧ Hid (unitF us p = unitF (us.drop k) p)) (fun iv _ => us.length - (intOf iv).toNat)
  case atStart => exact ⟨0, by omega, rfl, rfl, rfl⟩
  case round =>
    obtain ⟨k, hk, rfl, rfl, H⟩ := hrel
    by_cases hlt : k < us.length
    · obtain ⟨b, o, rfl⟩ := hf (by omega)
      obtain ⟨cs, ⟨vi, vd, vb, li, lb, rfl, hri, hrd, hrb⟩, hcs⟩ := HA.out.get k us[k] (by simp)
      have HE := Lib.hid (unitF_at us p k hlt)
      have HG := Lib.hid (show us[k]? = some us[k] by simp)
      obtain ⟨u, hu⟩ : ∃ u, us[k] = u := ⟨_, rfl⟩
      rw [hu] at HE hcs HG
      obtain ⟨pkg, ds⟩ := u
      dsimp only at HE hcs
      have g0 := cell_on H0.out (hcs 0 _ rfl)
      rw [Nat.add_zero] at g0
      clear hcs hri hrd hrb hu
      cases hp : (pkg == p)
      · have HR := Lib.hid (show unitF us p = unitF (us.drop (k + 1)) p by rw [H.out, HE.out, if_neg (by rw [hp]; simp)])
        have hp' : (pkg.toList == p.toList) = false := by simpa using list_eq hp
        clear H HE hp
        go_wp2_with fail
        exact ⟨⟨k + 1, by omega, by go_num, trivial, HR⟩, by simp [intOf]; omega⟩
      · have HR := Lib.hid (show unitF us p = some ⟨pkg, ds⟩ by rw [H.out, HE.out, if_pos hp])
        have hp' := list_eq' hp
        clear H HE hp
        go_wp2_with fail
        go_ret
        refine ⟨⟨_, rfl, ?_⟩, rfl⟩
        unfold UnitIs
        rw [HR.out]
        exact ⟨k, rfl, HG.out⟩
    · have HR := Lib.hid (show unitF us p = none by rw [H.out, List.drop_eq_nil_of_le (by omega), unitF])
      clear H
      go_wp2_with fail
      go_ret
      refine ⟨⟨_, rfl, ?_⟩, rfl⟩
      unfold UnitIs
      rw [HR.out]
end Go.Proofs.Ytcelpmojhjnggaa

/- Declarations by their names: the document's Find. -/
namespace Go.Proofs.Ytcelpmojhjnggaa
open Go Go.RowKit Go.Sort KindsP
set_option maxHeartbeats 4000000
set_option maxRecDepth 100000

theorem rfind_any (d : Nat) (w0 w : World) (v : Value) (us : List Unt) (p n : ByteArray) (h : RowG 4 (LiesU w0 d) w0 v us) (hb0 : Below w0.heap.size w0 w) : Calls Try.prog 26 #[v, .string p, .string n] w (FindPost w0 w d (findU us p n)) := by
  have HU := Lib.hid (runit_any d w0 (w.alloc (.cells #[.int .i64 0, .string ⟨#[]⟩, .string ⟨#[]⟩, .int .i64 0, .int .i64 0, .string ⟨#[]⟩, .string ⟨#[]⟩, .slice none 0 0, .slice none 0 0, .slice none 0 0] 41)) v us p h (hb0.alloc hb0.size _))
  obtain ⟨a, c, rfl, hcc, hcm, hf⟩ := h.form
  have hll := Nat.le_trans hcc hcm
  unfold maxLen at hll
  have HA := Lib.hid h
  have H0 := Lib.hid hb0
  clear h hb0
  go_enter Try.func26, Try.ntmps26
  go_wp2_with (first | (go_at_call 50; refine HU.out.mono ?_; rintro e w2 ⟨⟨iu, rfl, hiu⟩, hw2⟩; have HW2 := Lib.hid hw2; clear hw2; refine Hid.out ?_))
  refine Lib.hid ?_
  have HBW : Hid (Below w.heap.size w w2) := Lib.hid (by rw [HW2.out]; exact (Below.refl _ _).alloc (Nat.le_refl _) _)
  have hbox : w2.heap[w.heap.size]? = some (.cells #[.int .i64 0, .string ⟨#[]⟩, .string ⟨#[]⟩, .int .i64 0, .int .i64 0, .string ⟨#[]⟩, .string ⟨#[]⟩, .slice none 0 0, .slice none 0 0, .slice none 0 0] 41) := by rw [HW2.out]; exact heap_alloc_new w _
  have d0 : w2.cell? ⟨w.heap.size, 0, none⟩ = some (.int .i64 0) := by simp [World.cell?, hbox]
  have d1 : w2.cell? ⟨w.heap.size, 1, none⟩ = some (.string ⟨#[]⟩) := by simp [World.cell?, hbox]
  have d2 : w2.cell? ⟨w.heap.size, 2, none⟩ = some (.string ⟨#[]⟩) := by simp [World.cell?, hbox]
  have d3 : w2.cell? ⟨w.heap.size, 3, none⟩ = some (.int .i64 0) := by simp [World.cell?, hbox]
  have d4 : w2.cell? ⟨w.heap.size, 4, none⟩ = some (.int .i64 0) := by simp [World.cell?, hbox]
  have d5 : w2.cell? ⟨w.heap.size, 5, none⟩ = some (.string ⟨#[]⟩) := by simp [World.cell?, hbox]
  have d6 : w2.cell? ⟨w.heap.size, 6, none⟩ = some (.string ⟨#[]⟩) := by simp [World.cell?, hbox]
  have d7 : w2.cell? ⟨w.heap.size, 7, none⟩ = some (.slice none 0 0) := by simp [World.cell?, hbox]
  have d8 : w2.cell? ⟨w.heap.size, 8, none⟩ = some (.slice none 0 0) := by simp [World.cell?, hbox]
  have d9 : w2.cell? ⟨w.heap.size, 9, none⟩ = some (.slice none 0 0) := by simp [World.cell?, hbox]
  have fz : ∀ i, w2.frozen? ⟨w.heap.size, i, none⟩ = false := fun i => by simp [World.frozen?, hbox]
  have hsz : w.heap.size < w2.heap.size := (Array.getElem?_eq_some_iff.1 hbox).1
  clear hbox HW2 HU
  unfold UnitIs at hiu
  cases hun : unitF us p with
  | none =>
    rw [hun] at hiu
    obtain rfl : iu = -1 := hiu
    have HR := Lib.hid (show findU us p n = none by unfold findU; rw [hun]; rfl)
    clear hun
    go_wp2_with fail
    refine bodyPost_ret (v := .tuple #[.agg #[.int .i64 0, .string ⟨#[]⟩, .string ⟨#[]⟩, .int .i64 0, .int .i64 0, .string ⟨#[]⟩, .string ⟨#[]⟩, .slice none 0 0, .slice none 0 0, .slice none 0 0], .bool false]) (by simp [results, Try.results26, go_sem, d0, d1, d2, d3, d4, d5, d6, d7, d8, d9]) rfl ?_
    rw [HR.out]
    exact ⟨below_set10 HBW.out (Nat.le_refl _) _ _ _ _ _ _ _ _ _ _, rfl⟩
  | some u =>
    rw [hun] at hiu
    obtain ⟨ku, rfl, hku⟩ := hiu
    obtain ⟨ds, hds⟩ : ∃ ds, u.decls = ds := ⟨_, rfl⟩
    have HI : Hid (findU us p n = findD ds n) := Lib.hid (by unfold findU; rw [hun]; show findD u.decls n = _; rw [hds])
    have hkl : ku < us.length := (List.getElem?_eq_some_iff.1 hku).1
    have ku0 : (0 : Int) ≤ (ku : Int) := by omega
    have ku1 : (ku : Int) < (us.length : Int) := by omega
    obtain ⟨bu, ou, rfl⟩ := hf (by omega)
    obtain ⟨cs, ⟨vi, vd, vb, li, lb, rfl, hri, hrd, hrb⟩, hcs⟩ := HA.out.get ku u hku
    rw [hds] at hrd
    obtain ⟨ad, cd, rfl, hcd, hmd, hdf⟩ := hrd.form
    have hld := Nat.le_trans hcd hmd
    unfold maxLen at hld
    have HD := Lib.hid hrd
    have H00 := Lib.hid (H0.out.trans (HBW.out.mono H0.out.size))
    have q2 := cell_on H00.out (hcs 2 _ rfl)
    clear hcs hri hrd hrb hds hku hun
    go_wp2_with fail
    go_loopw [9] (fun iv wr => ∃ (k : Nat), k ≤ ds.length ∧ iv = .int .i64 k ∧ wr = w2 ∧ Hid (findU us p n = findD (ds.drop k) n)) (fun iv _ => ds.length - (intOf iv).toNat)
    case atStart => exact ⟨0, by omega, rfl, rfl, HI.out⟩
    case round =>
      obtain ⟨k, hk, rfl, rfl, H⟩ := hrel
      by_cases hlt : k < ds.length
      · obtain ⟨b, o, rfl⟩ := hdf (by omega)
        obtain ⟨cs, ⟨z0, z1, z2, z3, z4, vf, rfl, hty, hfs⟩, hcs⟩ := HD.out.get k ds[k] (by simp)
        have HE := Lib.hid (findD_at ds n k hlt)
        obtain ⟨x, hx⟩ : ∃ x, ds[k] = x := ⟨_, rfl⟩
        rw [hx] at HE hty hfs hcs
        obtain ⟨kd, nm, of, vl, t, fs⟩ := x
        dsimp only at HE hty hfs hcs
        obtain ⟨x0, x1, x2, x3, x4, x5, x6, x7, x8, rfl, rfl, rfl, rfl, rfl⟩ := lies_form hty
        obtain ⟨af, cf, rfl, _⟩ := hfs.form
        have HX : Hid (LiesD w0 d [.int .i64 kd, .string nm, .string of, .int .i64 vl, .int .i64 x0, .string x1, .string x2, .slice x3 x4 x5, .slice x6 x7 x8, .slice af fs.length cf] ⟨kd, nm, of, vl, t, fs⟩) := Lib.hid ⟨_, _, _, _, _, _, rfl, hty, hfs⟩
        have g0 := cell_on H00.out (hcs 0 _ rfl)
        rw [Nat.add_zero] at g0
        have g1 := cell_on H00.out (hcs 1 _ rfl)
        have g2 := cell_on H00.out (hcs 2 _ rfl)
        have g3 := cell_on H00.out (hcs 3 _ rfl)
        have g4 := cell_on H00.out (hcs 4 _ rfl)
        have g5 := cell_on H00.out (hcs 5 _ rfl)
        have g6 := cell_on H00.out (hcs 6 _ rfl)
        have g7 := cell_on H00.out (hcs 7 _ rfl)
        have g8 := cell_on H00.out (hcs 8 _ rfl)
        have g9 := cell_on H00.out (hcs 9 _ rfl)
        clear hcs hty hfs hx
        cases hc : ((kd != 6) && (nm == n))
        · have HR := Lib.hid (show findU us p n = findD (ds.drop (k + 1)) n by rw [H.out, HE.out, if_neg (by rw [hc]; simp)])
          clear H HE
          cases hnm : (nm == n)
          · have hp' : (nm.toList == n.toList) = false := by simpa using list_eq hnm
            clear hc hnm
            go_wp2_with fail
            exact ⟨⟨k + 1, by omega, by go_num, trivial, HR⟩, by simp [intOf]; omega⟩
          · rw [hnm, Bool.and_true] at hc
            have hp' := list_eq' hnm
            clear hnm
            go_wp2_with fail
            exact ⟨⟨k + 1, by omega, by go_num, trivial, HR⟩, by simp [intOf]; omega⟩
        · have HR := Lib.hid (show findU us p n = some ⟨kd, nm, of, vl, t, fs⟩ by rw [H.out, HE.out, if_pos hc])
          rw [Bool.and_eq_true] at hc
          obtain ⟨hk6, hnm⟩ := hc
          have hp' := list_eq' hnm
          clear H HE hnm
          go_wp2_with fail
          refine bodyPost_ret (v := .tuple #[.agg #[.int .i64 kd, .string nm, .string of, .int .i64 vl, .int .i64 x0, .string x1, .string x2, .slice x3 x4 x5, .slice x6 x7 x8, .slice af fs.length cf], .bool true]) (by simp [results, Try.results26, go_sem, d0, d1, d2, d3, d4, d5, d6, d7, d8, d9]) rfl ?_
          rw [HR.out]
          exact ⟨below_set10 HBW.out (Nat.le_refl _) _ _ _ _ _ _ _ _ _ _, _, rfl, HX.out⟩
      · have HR := Lib.hid (show findU us p n = none by rw [H.out, List.drop_eq_nil_of_le (by omega), findD])
        clear H
        go_wp2_with fail
        refine bodyPost_ret (v := .tuple #[.agg #[.int .i64 0, .string ⟨#[]⟩, .string ⟨#[]⟩, .int .i64 0, .int .i64 0, .string ⟨#[]⟩, .string ⟨#[]⟩, .slice none 0 0, .slice none 0 0, .slice none 0 0], .bool false]) (by simp [results, Try.results26, go_sem, d0, d1, d2, d3, d4, d5, d6, d7, d8, d9]) rfl ?_
        rw [HR.out]
        exact ⟨below_set10 HBW.out (Nat.le_refl _) _ _ _ _ _ _ _ _ _ _, rfl⟩
end Go.Proofs.Ytcelpmojhjnggaa
