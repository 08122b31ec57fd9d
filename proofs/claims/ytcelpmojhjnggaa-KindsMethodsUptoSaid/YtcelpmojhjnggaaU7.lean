/- Declarations by their names: the document's Find. -/
import Derived.Test.YtcelpmojhjnggaaU6
namespace Go.Proofs.Ytcelpmojhjnggaa
open Go Go.RowKit Go.Sort KindsP
set_option maxHeartbeats 4000000
set_option maxRecDepth 100000

theorem rfind_any (d : Nat) (w0 w : World) (v : Value) (us : List Unt) (p n : ByteArray) (h : RowG 4 (LiesU w0 d) w0 v us) (hb0 : Below w0.heap.size w0 w) : Calls Try.prog 26 #[v, .string p, .string n] w (FindPost w0 w d (findU us p n)) := by
  have HU := Lib.hid (runit_any d w0 (w.alloc (.cells #[.int .i64 0, .string ⟨#[]⟩, .string ⟨#[]⟩, .int .i64 0, .int .i64 0, .string ⟨#[]⟩, .string ⟨#[]⟩, .slice none 0 0, .slice none 0 0, .slice none 0 0] 41)) v us p h (hb0.alloc hb0.size _))
  obtain ⟨a, c, rfl, hcc, hcm, hf⟩ := h.form
  have hll := Nat.le_trans hcc hcm
  unfold maxLen at hll
  have HA := Lib.hid h
  have H0 := Lib.hid hb0
  clear h hb0
  go_enter Try.func26, Try.ntmps26
  go_wp2_with (first | (go_at_call 50; refine HU.out.mono ?_; rintro e w2 ⟨⟨iu, rfl, hiu⟩, hw2⟩; have HW2 := Lib.hid hw2; clear hw2; refine Hid.out ?_))
  refine Lib.hid ?_
  have HBW : Hid (Below w.heap.size w w2) := Lib.hid (by rw [HW2.out]; exact (Below.refl _ _).alloc (Nat.le_refl _) _)
  have hbox : w2.heap[w.heap.size]? = some (.cells #[.int .i64 0, .string ⟨#[]⟩, .string ⟨#[]⟩, .int .i64 0, .int .i64 0, .string ⟨#[]⟩, .string ⟨#[]⟩, .slice none 0 0, .slice none 0 0, .slice none 0 0] 41) := by rw [HW2.out]; exact heap_alloc_new w _
  have d0 : w2.cell? ⟨w.heap.size, 0, none⟩ = some (.int .i64 0) := by simp [World.cell?, hbox]
  have d1 : w2.cell? ⟨w.heap.size, 1, none⟩ = some (.string ⟨#[]⟩) := by simp [World.cell?, hbox]
  have d2 : w2.cell? ⟨w.heap.size, 2, none⟩ = some (.string ⟨#[]⟩) := by simp [World.cell?, hbox]
  have d3 : w2.cell? ⟨w.heap.size, 3, none⟩ = some (.int .i64 0) := by simp [World.cell?, hbox]
  have d4 : w2.cell? ⟨w.heap.size, 4, none⟩ = some (.int .i64 0) := by simp [World.cell?, hbox]
  have d5 : w2.cell? ⟨w.heap.size, 5, none⟩ = some (.string ⟨#[]⟩) := by simp [World.cell?, hbox]
  have d6 : w2.cell? ⟨w.heap.size, 6, none⟩ = some (.string ⟨#[]⟩) := by simp [World.cell?, hbox]
  have d7 : w2.cell? ⟨w.heap.size, 7, none⟩ = some (.slice none 0 0) := by simp [World.cell?, hbox]
  have d8 : w2.cell? ⟨w.heap.size, 8, none⟩ = some (.slice none 0 0) := by simp [World.cell?, hbox]
  have d9 : w2.cell? ⟨w.heap.size, 9, none⟩ = some (.slice none 0 0) := by simp [World.cell?, hbox]
  have fz : ∀ i, w2.frozen? ⟨w.heap.size, i, none⟩ = false := fun i => by simp [World.frozen?, hbox]
  have hsz : w.heap.size < w2.heap.size := (Array.getElem?_eq_some_iff.1 hbox).1
  clear hbox HW2 HU
  unfold UnitIs at hiu
  cases hun : unitF us p with
  | none =>
    rw [hun] at hiu
    obtain rfl : iu = -1 := hiu
    have HR := Lib.hid (show findU us p n = none by unfold findU; rw [hun]; rfl)
    clear hun
    go_wp2_with fail
    refine bodyPost_ret (v := .tuple #[.agg #[.int .i64 0, .string ⟨#[]⟩, .string ⟨#[]⟩, .int .i64 0, .int .i64 0, .string ⟨#[]⟩, .string ⟨#[]⟩, .slice none 0 0, .slice none 0 0, .slice none 0 0], .bool false]) (by simp [results, Try.results26, go_sem, d0, d1, d2, d3, d4, d5, d6, d7, d8, d9]) rfl ?_
    rw [HR.out]
    exact ⟨below_set10 HBW.out (Nat.le_refl _) _ _ _ _ _ _ _ _ _ _, rfl⟩
  | some u =>
    rw [hun] at hiu
    obtain ⟨ku, rfl, hku⟩ := hiu
    obtain ⟨ds, hds⟩ : ∃ ds, u.decls = ds := ⟨_, rfl⟩
    have HI : Hid (findU us p n = findD ds n) := Lib.hid (by unfold findU; rw [hun]; show findD u.decls n = _; rw [hds])
    have hkl : ku < us.length := (List.getElem?_eq_some_iff.1 hku).1
    have ku0 : (0 : Int) ≤ (ku : Int) := by omega
    have ku1 : (ku : Int) < (us.length : Int) := by omega
    obtain ⟨bu, ou, rfl⟩ := hf (by omega)
    obtain ⟨cs, ⟨vi, vd, vb, li, lb, rfl, hri, hrd, hrb⟩, hcs⟩ := HA.out.get ku u hku
    rw [hds] at hrd
    obtain ⟨ad, cd, rfl, hcd, hmd, hdf⟩ := hrd.form
    have hld := Nat.le_trans hcd hmd
    unfold maxLen at hld
    have HD := Lib.hid hrd
    have H00 := Lib.hid (H0.out.trans (HBW.out.mono H0.out.size))
    have q2 := cell_on H00.out (hcs 2 _ rfl)
    clear hcs hri hrd hrb hds hku hun
    go_wp2_with fail
    go_loopw [9] (fun iv wr => ∃ (k : Nat), k ≤ ds.length ∧ iv = .int .i64 k ∧ wr = w2 ∧ Hid (findU us p n = findD (ds.drop k) n)) (fun iv _ => ds.length - (intOf iv).toNat)
    case atStart => exact ⟨0, by omega, rfl, rfl, HI.out⟩
    case round =>
      obtain ⟨k, hk, rfl, rfl, H⟩ := hrel
      by_cases hlt : k < ds.length
      · obtain ⟨b, o, rfl⟩ := hdf (by omega)
        obtain ⟨cs, ⟨z0, z1, z2, z3, z4, vf, rfl, hty, hfs⟩, hcs⟩ := HD.out.get k ds[k] (by simp)
        have HE := Lib.hid (findD_at ds n k hlt)
        obtain ⟨x, hx⟩ : ∃ x, ds[k] = x := ⟨_, rfl⟩
        rw [hx] at HE hty hfs hcs
        obtain ⟨kd, nm, of, vl, t, fs⟩ := x
        dsimp only at HE hty hfs hcs
        obtain ⟨x0, x1, x2, x3, x4, x5, x6, x7, x8, rfl, rfl, rfl, rfl, rfl⟩ := lies_form hty
        obtain ⟨af, cf, rfl, _⟩ := hfs.form
        have HX : Hid (LiesD w0 d [.int .i64 kd, .string nm, .string of, .int .i64 vl, .int .i64 x0, .string x1, .string x2, .slice x3 x4 x5, .slice x6 x7 x8, .slice af fs.length cf] ⟨kd, nm, of, vl, t, fs⟩) := Lib.hid ⟨_, _, _, _, _, _, rfl, hty, hfs⟩
        have g0 := cell_on H00.out (hcs 0 _ rfl)
        rw [Nat.add_zero] at g0
        have g1 := cell_on H00.out (hcs 1 _ rfl)
        have g2 := cell_on H00.out (hcs 2 _ rfl)
        have g3 := cell_on H00.out (hcs 3 _ rfl)
        have g4 := cell_on H00.out (hcs 4 _ rfl)
        have g5 := cell_on H00.out (hcs 5 _ rfl)
        have g6 := cell_on H00.out (hcs 6 _ rfl)
        have g7 := cell_on H00.out (hcs 7 _ rfl)
        have g8 := cell_on H00.out (hcs 8 _ rfl)
        have g9 := cell_on H00.out (hcs 9 _ rfl)
        clear hcs hty hfs hx
        cases hc : ((kd != 6) && (nm == n))
        · have HR := Lib.hid (show findU us p n = findD (ds.drop (k + 1)) n by rw [H.out, HE.out, if_neg (by rw [hc]; simp)])
          clear H HE
          cases hnm : (nm == n)
          · have hp' : (nm.toList == n.toList) = false := by simpa using list_eq hnm
            clear hc hnm
            go_wp2_with fail
            exact ⟨⟨k + 1, by omega, by go_num, trivial, HR⟩, by simp [intOf]; omega⟩
          · rw [hnm, Bool.and_true] at hc
            have hp' := list_eq' hnm
            clear hnm
            go_wp2_with fail
            exact ⟨⟨k + 1, by omega, by go_num, trivial, HR⟩, by simp [intOf]; omega⟩
        · have HR := Lib.hid (show findU us p n = some ⟨kd, nm, of, vl, t, fs⟩ by rw [H.out, HE.out, if_pos hc])
          rw [Bool.and_eq_true] at hc
          obtain ⟨hk6, hnm⟩ := hc
          have hp' := list_eq' hnm
          clear H HE hnm
          go_wp2_with fail
          refine bodyPost_ret (v := .tuple #[.agg #[.int .i64 kd, .string nm, .string of, .int .i64 vl, .int .i64 x0, .string x1, .string x2, .slice x3 x4 x5, .slice x6 x7 x8, .slice af fs.length cf], .bool true]) (by simp [results, Try.results26, go_sem, d0, d1, d2, d3, d4, d5, d6, d7, d8, d9]) rfl ?_
          rw [HR.out]
          exact ⟨below_set10 HBW.out (Nat.le_refl _) _ _ _ _ _ _ _ _ _ _, _, rfl, HX.out⟩
      · have HR := Lib.hid (show findU us p n = none by rw [H.out, List.drop_eq_nil_of_le (by omega), findD])
        clear H
        go_wp2_with fail
        refine bodyPost_ret (v := .tuple #[.agg #[.int .i64 0, .string ⟨#[]⟩, .string ⟨#[]⟩, .int .i64 0, .int .i64 0, .string ⟨#[]⟩, .string ⟨#[]⟩, .slice none 0 0, .slice none 0 0, .slice none 0 0], .bool false]) (by simp [results, Try.results26, go_sem, d0, d1, d2, d3, d4, d5, d6, d7, d8, d9]) rfl ?_
        rw [HR.out]
        exact ⟨below_set10 HBW.out (Nat.le_refl _) _ _ _ _ _ _ _ _ _ _, rfl⟩
end Go.Proofs.Ytcelpmojhjnggaa
