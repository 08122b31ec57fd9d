/- Fits, from an interface or a variable; and all together. -/
import Derived.Test.YtcelpmojhjnggaaH26
namespace Go.Proofs.Ytcelpmojhjnggaa
open Go Go.RowKit Go.Sort Go.Deep KindsP
set_option maxHeartbeats 4000000
set_option maxRecDepth 100000

theorem fits32_face (d D : Nat) (w0 w : World) (v vv : Value) (us : List Unt) (vars : List Fld) (kt : Int) (pf nf pt nt : ByteArray) (a1 a2 b1 b2 : Option Addr) (an1 ac1 an2 ac2 bn1 bc1 bn2 bc2 : Nat) (tf tt : Ty) (h : RowG 4 (LiesU w0 d) w0 v us) (hv : RowG 6 (LiesF w0 d) w0 vv vars) (htf : Lies w0 D (.agg #[.int .i64 8, .string pf, .string nf, .slice a1 an1 ac1, .slice a2 an2 ac2]) tf) (htt : Lies w0 D (.agg #[.int .i64 kt, .string pt, .string nt, .slice b1 bn1 bc1, .slice b2 bn2 bc2]) tt) (hb0 : Below w0.heap.size w0 w) (hbd : ∀ k p n, (baseL us k p n).length ≤ 1000000) (hst : ∀ k p n, ∀ x ∈ baseL us k p n, sizT x.ty ≤ 1000000000) (ht0 : ¬ kt = 0) (hs : sameT tf tt = false) (hno : faceOk us kt pt nt = true) :
    Calls Try.prog 32 #[v, vv, .agg #[.int .i64 8, .string pf, .string nf, .slice a1 an1 ac1, .slice a2 an2 ac2], .agg #[.int .i64 kt, .string pt, .string nt, .slice b1 bn1 bc1, .slice b2 bn2 bc2]] w fun e w' => e = .returned (.bool (fitsB us vars 8 pf nf kt pt nt (sameT tf tt))) ∧ Below w.heap.size w w' := by
  have HCO0 := Lib.hid (show condB us vars 8 pf nf = faceOk us 8 pf nf from by unfold condB; simp)
  have HS := Lib.hid (fun W (hb : Below w0.heap.size w0 W) => same_any D D W _ _ tf tt (Lies.below hb _ _ _ htf) (Lies.below hb _ _ _ htt))
  have HT := Lib.hid (fun W (hb : Below w0.heap.size w0 W) => face_any d w0 W v us kt pt nt b1 b2 bn1 bc1 bn2 bc2 h hb)
  have HFF := Lib.hid (fun W (hb : Below w0.heap.size w0 W) => face_any d w0 W v us 8 pf nf a1 a2 an1 ac1 an2 ac2 h hb)
  have HMU := Lib.hid (fun W (hb : Below w0.heap.size w0 W) => must_any d w0 W vv vars nf hv hb)
  have HME := Lib.hid (fun W (hb : Below w0.heap.size w0 W) => meth_any d w0 W v vv us vars 8 pf nf a1 a2 an1 ac1 an2 ac2 h hv hb hbd hst)
  have HE := Lib.hid (fits_eq us vars 8 pf nf kt pt nt (sameT tf tt))
  generalize fitsB us vars 8 pf nf kt pt nt (sameT tf tt) = r at HE ⊢
  rw [hs] at HE HS; clear hs
  have hfo := hno; clear hno
  obtain ⟨L, hL⟩ : ∃ L, (faceD us kt pt nt).fields = L := ⟨_, rfl⟩
  rw [hfo, hL] at HE
  have HFO := Lib.hid hfo
  have HL := Lib.hid hL
  generalize methL us vars 8 pf nf = LF at HME HE
  obtain ⟨av, cv, rfl, _⟩ := h.form
  obtain ⟨bv, ev, rfl, _⟩ := hv.form
  have HB2 := Lib.hid (alloc2_below w (.cells #[.int .i64 8, .string pf, .string nf, .slice a1 an1 ac1, .slice a2 an2 ac2] 31) (.cells #[.int .i64 kt, .string pt, .string nt, .slice b1 bn1 bc1, .slice b2 bn2 bc2] 31))
  have HB02 := Lib.hid (hb0.trans (HB2.out.mono hb0.size))
  have HSW := Lib.hid hb0.size
  have HBX := Lib.hid (fun (W : World) (hb : Below ((w.alloc (.cells #[.int .i64 8, .string pf, .string nf, .slice a1 an1 ac1, .slice a2 an2 ac2] 31)).alloc (.cells #[.int .i64 kt, .string pt, .string nt, .slice b1 bn1 bc1, .slice b2 bn2 bc2] 31)).heap.size ((w.alloc (.cells #[.int .i64 8, .string pf, .string nf, .slice a1 an1 ac1, .slice a2 an2 ac2] 31)).alloc (.cells #[.int .i64 kt, .string pt, .string nt, .slice b1 bn1 bc1, .slice b2 bn2 bc2] 31)) W) => (show (W.cell? ⟨w.heap.size, 0, none⟩ = some (.int .i64 8) ∧ W.cell? ⟨w.heap.size, 1, none⟩ = some (.string pf) ∧ W.cell? ⟨w.heap.size, 2, none⟩ = some (.string nf) ∧ W.cell? ⟨w.heap.size, 3, none⟩ = some (.slice a1 an1 ac1) ∧ W.cell? ⟨w.heap.size, 4, none⟩ = some (.slice a2 an2 ac2)) ∧ (W.cell? ⟨w.heap.size + 1, 0, none⟩ = some (.int .i64 kt) ∧ W.cell? ⟨w.heap.size + 1, 1, none⟩ = some (.string pt) ∧ W.cell? ⟨w.heap.size + 1, 2, none⟩ = some (.string nt) ∧ W.cell? ⟨w.heap.size + 1, 3, none⟩ = some (.slice b1 bn1 bc1) ∧ W.cell? ⟨w.heap.size + 1, 4, none⟩ = some (.slice b2 bn2 bc2)) ∧ Below w.heap.size w W from by
    obtain ⟨hj, hk, hbw⟩ := alloc_known2 hb
    exact ⟨⟨(cell_of_row _ _ 0 _ _ _ hj).trans rfl, (cell_of_row _ _ 1 _ _ _ hj).trans rfl, (cell_of_row _ _ 2 _ _ _ hj).trans rfl, (cell_of_row _ _ 3 _ _ _ hj).trans rfl, (cell_of_row _ _ 4 _ _ _ hj).trans rfl⟩, ⟨(cell_of_row _ _ 0 _ _ _ hk).trans rfl, (cell_of_row _ _ 1 _ _ _ hk).trans rfl, (cell_of_row _ _ 2 _ _ _ hk).trans rfl, (cell_of_row _ _ 3 _ _ _ hk).trans rfl, (cell_of_row _ _ 4 _ _ _ hk).trans rfl⟩, hbw⟩))
  clear h hv htf htt hb0 hbd hst hfo hL
  obtain ⟨fg, hfg⟩ : ∃ fg, faceOk us 8 pf nf = fg := ⟨_, rfl⟩
  rw [hfg] at HCO0
  have HFG := Lib.hid hfg
  have e1 : (kt == 0) = false := by simpa using ht0
  clear ht0 hfg
  go_enter Try.func32, Try.ntmps32
  go_wp2_with (first | (go_at_call 21; refine (HS.out _ HB02.out).mono ?_; rintro e w3 ⟨rfl, hb3⟩; refine Hid.out ?_))
  refine Lib.hid ?_
  obtain ⟨⟨p0, p1, p2, p3, p4⟩, ⟨q0, q1, q2, q3, q4⟩, hbw3⟩ := HBX.out w3 hb3
  have HN3 := Lib.hid hb3
  have HB3 := Lib.hid hbw3
  have HB03 := Lib.hid (HB02.out.trans (hb3.mono HB02.out.size))
  clear hb3 hbw3
  go_wp2_with (first | (go_at_call 52; refine (HT.out w3 HB03.out).mono ?_; rintro e w5 ⟨hb5, kd, nm, of, vl, x0, x1, x2, x3, x4, x5, x6, x7, x8, xf, nf', cf, rfl, hl⟩; refine Hid.out ?_))
  refine Lib.hid ?_
  rw [HFO.out]
  have HN5 := Lib.hid (HN3.out.trans (hb5.mono HN3.out.size))
  clear p0 p1 p2 p3 p4 q0 q1 q2 q3 q4
  obtain ⟨⟨p0, p1, p2, p3, p4⟩, ⟨q0, q1, q2, q3, q4⟩, hbw5⟩ := HBX.out w5 HN5.out
  have HB5 := Lib.hid hbw5
  have HB05 := Lib.hid (HB03.out.trans (hb5.mono HB03.out.size))
  have HHL := Lib.hid hl
  have hsz5 : w.heap.size < w5.heap.size := World.block_lt_of_cell? w5 _ p0
  clear hb5 hbw5 hl
  obtain ⟨y0, y1, y2, y3, y4, vf, e, _, hfs⟩ := HHL.out
  have hvf : some (Value.slice xf nf' cf) = some vf := congrArg (fun l : List Value => l[9]?) e
  obtain rfl := Option.some.inj hvf
  rw [HL.out] at hfs
  obtain ⟨af, cf', ef, hfc, hfm, hff⟩ := hfs.form
  cases ef
  have HFS := Lib.hid hfs
  have hll := Nat.le_trans hfc hfm
  unfold maxLen at hll
  have HBD := Lib.hid (fun (W : World) (hb : Below (w5.alloc (.cells #[.int .i64 kd, .string nm, .string of, .int .i64 vl, .int .i64 x0, .string x1, .string x2, .slice x3 x4 x5, .slice x6 x7 x8, .slice xf L.length cf] 41)).heap.size (w5.alloc (.cells #[.int .i64 kd, .string nm, .string of, .int .i64 vl, .int .i64 x0, .string x1, .string x2, .slice x3 x4 x5, .slice x6 x7 x8, .slice xf L.length cf] 41)) W) => (show (W.cell? ⟨w.heap.size, 0, none⟩ = some (.int .i64 8) ∧ W.cell? ⟨w.heap.size, 1, none⟩ = some (.string pf) ∧ W.cell? ⟨w.heap.size, 2, none⟩ = some (.string nf) ∧ W.cell? ⟨w.heap.size, 3, none⟩ = some (.slice a1 an1 ac1) ∧ W.cell? ⟨w.heap.size, 4, none⟩ = some (.slice a2 an2 ac2)) ∧ W.cell? ⟨w5.heap.size, 9, none⟩ = some (.slice xf L.length cf) ∧ Below w.heap.size w W ∧ Below w0.heap.size w0 W from by
    obtain ⟨hj, hbw⟩ := alloc_known hb
    obtain ⟨⟨p0, p1, p2, p3, p4⟩, _, _⟩ := HBX.out W (HN5.out.trans (hbw.mono HN5.out.size))
    exact ⟨⟨p0, p1, p2, p3, p4⟩, (cell_of_row _ _ 9 _ _ _ hj).trans rfl, HB5.out.trans (hbw.mono HB5.out.size), HB05.out.trans (hbw.mono HB05.out.size)⟩))
  clear e hvf hfs HHL HBX
  go_wp2_with (first | (go_at_call 52; refine (HFF.out (w5.alloc (.cells #[.int .i64 kd, .string nm, .string of, .int .i64 vl, .int .i64 x0, .string x1, .string x2, .slice x3 x4 x5, .slice x6 x7 x8, .slice xf L.length cf] 41)) (HBD.out _ (Below.refl _ _)).2.2.2).mono ?_; rintro e w6 ⟨hb6, kd2, nm2, of2, vl2, z0, z1, z2, z3, z4, z5, z6, z7, z8, zf, nz, cz, rfl, _⟩; refine Hid.out ?_))
  refine Lib.hid ?_
  rw [HFG.out]
  clear p0 p1 p2 p3 p4 q0 q1 q2 q3 q4
  obtain ⟨⟨p0, p1, p2, p3, p4⟩, _, hbw6, _⟩ := HBD.out w6 hb6
  have HN6 := Lib.hid hb6
  have HB6 := Lib.hid hbw6
  have hsz6 : w.heap.size < w6.heap.size := World.block_lt_of_cell? w6 _ p0
  clear hb6 hbw6
  cases fg with
  | false =>
    go_wp2_with fail
    go_ret
    obtain rfl : r = false := by rw [HE.out, HCO0.out]; simp
    exact ⟨rfl, HB6.out.alloc HB6.out.size _⟩
  | true =>
    have HCO := HCO0
    have HN6A := Lib.hid (HN6.out.alloc HN6.out.size (.cells #[.int .i64 kd2, .string nm2, .string of2, .int .i64 vl2, .int .i64 z0, .string z1, .string z2, .slice z3 z4 z5, .slice z6 z7 z8, .slice zf nz cz] 41))
    go_wp2_with (first | (go_at_call 29; refine (HME.out (w6.alloc (.cells #[.int .i64 kd2, .string nm2, .string of2, .int .i64 vl2, .int .i64 z0, .string z1, .string z2, .slice z3 z4 z5, .slice z6 z7 z8, .slice zf nz cz] 41)) (HBD.out _ HN6A.out).2.2.2).mono ?_; rintro e w7 ⟨hb7, u7, rfl, hr7⟩; refine Hid.out ?_))
    refine Lib.hid ?_
    have hb7' := HN6A.out.trans (hb7.mono HN6A.out.size)
    obtain ⟨_, g9, hbw7, hb07⟩ := HBD.out w7 hb7'
    have HB7 := Lib.hid hbw7
    obtain ⟨a7, c7, rfl, _⟩ := hr7.form
    have HR7 := Lib.hid (show RowG 6 (LiesF w7 (d + 1)) w7 _ LF from hr7.mono (fun _ _ h => h.lies) (Below.refl _ _))
    have HF7 := Lib.hid (HFS.out.mono (LiesF.below hb07 (d + 1)) hb07)
    clear p0 p1 p2 p3 p4 HN6 HB6 hb7 hr7 hb7' hbw7 hb07 HS HT HFF HMU HME HBD HN3 HB3 HB03 HN5 HB5 HB05 HB2 HB02 HFS
    go_wp2_with fail
    go_loopw [88] (fun iv wr => ∃ i : Nat, i ≤ L.length ∧ iv = .int .i64 i ∧ Below w7.heap.size w7 wr ∧ Hid (hasAll LF L = hasAll LF (L.drop i))) (fun iv _ => L.length - (intOf iv).toNat)
    case atStart => exact ⟨0, by omega, rfl, Below.refl _ _, rfl⟩
    case round =>
      obtain ⟨i, hi, rfl, hb, H⟩ := hrel
      have HB := Lib.hid hb
      clear hb
      by_cases hilt : i < L.length
      · obtain ⟨bw, ow, rfl⟩ := hff (by omega)
        have hi0 : (0 : Int) ≤ (i : Int) := by omega
        have hi1 : (i : Int) < (L.length : Int) := by omega
        obtain ⟨cs, ⟨z0, z1, z2, z3, z4, rfl, hty⟩, hcs⟩ := HF7.out.get i L[i] (by simp)
        have HEI := Lib.hid (hasAll_at LF L i hilt)
        obtain ⟨m, hm⟩ : ∃ x, L[i] = x := ⟨_, rfl⟩
        rw [hm] at HEI hty hcs
        obtain ⟨wn, wt⟩ := m
        dsimp only at HEI hty hcs
        obtain ⟨y0, y1, y2, y3, y4, y5, y6, y7, y8, rfl, rfl, rfl, rfl, rfl⟩ := lies_form hty
        have hba := HB.out.alloc HB.out.size (.cells #[.string wn, .int .i64 y0, .string y1, .string y2, .slice y3 y4 y5, .slice y6 y7 y8] 52)
        have HC := Lib.hid (contains61_any (d + 1) (d + 1) (wr.alloc (.cells #[.string wn, .int .i64 y0, .string y1, .string y2, .slice y3 y4 y5, .slice y6 y7 y8] 52)) _ LF wr.heap.size wn y0 y1 y2 y3 y4 y5 y6 y7 y8 wt (HR7.out.mono (LiesF.below hba (d + 1)) hba) (Lies.below hba _ _ _ hty) (heap_alloc_new wr _))
        have HBA := Lib.hid hba
        have g0 := cell_on HB.out (hcs 0 _ rfl)
        rw [Nat.add_zero] at g0
        have g1 := cell_on HB.out (hcs 1 _ rfl)
        have g2 := cell_on HB.out (hcs 2 _ rfl)
        have g3 := cell_on HB.out (hcs 3 _ rfl)
        have g4 := cell_on HB.out (hcs 4 _ rfl)
        have g5 := cell_on HB.out (hcs 5 _ rfl)
        clear hcs hty hm hba
        cases hp : hasM LF ⟨wn, wt⟩
        all_goals
          rw [hp] at HC HEI
          clear hp
          go_wp2_with (first | (go_at_call 61; refine HC.out.mono ?_; rintro e w8 ⟨rfl, hb8⟩; have HB8 := Lib.hid (HBA.out.trans (hb8.mono HBA.out.size)); clear hb8))
        · go_ret
          obtain rfl : r = false := by rw [HE.out, H.out, HEI.out, HCO.out]; simp
          exact ⟨rfl, HB7.out.trans (HB8.out.mono HB7.out.size)⟩
        · exact ⟨⟨i + 1, by omega, by go_num, HB8.out, Lib.hid (by rw [H.out, HEI.out]; rfl)⟩, by simp [intOf]; omega⟩
      · have HR := Lib.hid (show hasAll LF L = true by rw [H.out, List.drop_eq_nil_of_le (by omega)]; rfl)
        clear H
        go_wp2_with fail
        go_ret
        obtain rfl : r = true := by rw [HE.out, HR.out, HCO.out]; rw [e1]; rfl
        exact ⟨rfl, HB7.out.trans (HB.out.mono HB7.out.size)⟩
theorem fits32_var (d D : Nat) (w0 w : World) (v vv : Value) (us : List Unt) (vars : List Fld) (kt : Int) (pf nf pt nt : ByteArray) (a1 a2 b1 b2 : Option Addr) (an1 ac1 an2 ac2 bn1 bc1 bn2 bc2 : Nat) (tf tt : Ty) (h : RowG 4 (LiesU w0 d) w0 v us) (hv : RowG 6 (LiesF w0 d) w0 vv vars) (htf : Lies w0 D (.agg #[.int .i64 9, .string pf, .string nf, .slice a1 an1 ac1, .slice a2 an2 ac2]) tf) (htt : Lies w0 D (.agg #[.int .i64 kt, .string pt, .string nt, .slice b1 bn1 bc1, .slice b2 bn2 bc2]) tt) (hb0 : Below w0.heap.size w0 w) (hbd : ∀ k p n, (baseL us k p n).length ≤ 1000000) (hst : ∀ k p n, ∀ x ∈ baseL us k p n, sizT x.ty ≤ 1000000000) (ht0 : ¬ kt = 0) (hs : sameT tf tt = false) (hno : faceOk us kt pt nt = true) :
    Calls Try.prog 32 #[v, vv, .agg #[.int .i64 9, .string pf, .string nf, .slice a1 an1 ac1, .slice a2 an2 ac2], .agg #[.int .i64 kt, .string pt, .string nt, .slice b1 bn1 bc1, .slice b2 bn2 bc2]] w fun e w' => e = .returned (.bool (fitsB us vars 9 pf nf kt pt nt (sameT tf tt))) ∧ Below w.heap.size w w' := by
  have HCO0 := Lib.hid (show condB us vars 9 pf nf = (Ty.kd (tyO (findF vars nf)) == 8) from by unfold condB; simp)
  have HS := Lib.hid (fun W (hb : Below w0.heap.size w0 W) => same_any D D W _ _ tf tt (Lies.below hb _ _ _ htf) (Lies.below hb _ _ _ htt))
  have HT := Lib.hid (fun W (hb : Below w0.heap.size w0 W) => face_any d w0 W v us kt pt nt b1 b2 bn1 bc1 bn2 bc2 h hb)
  have HFF := Lib.hid (fun W (hb : Below w0.heap.size w0 W) => face_any d w0 W v us 9 pf nf a1 a2 an1 ac1 an2 ac2 h hb)
  have HMU := Lib.hid (fun W (hb : Below w0.heap.size w0 W) => must_any d w0 W vv vars nf hv hb)
  have HME := Lib.hid (fun W (hb : Below w0.heap.size w0 W) => meth_any d w0 W v vv us vars 9 pf nf a1 a2 an1 ac1 an2 ac2 h hv hb hbd hst)
  have HE := Lib.hid (fits_eq us vars 9 pf nf kt pt nt (sameT tf tt))
  generalize fitsB us vars 9 pf nf kt pt nt (sameT tf tt) = r at HE ⊢
  rw [hs] at HE HS; clear hs
  have hfo := hno; clear hno
  obtain ⟨L, hL⟩ : ∃ L, (faceD us kt pt nt).fields = L := ⟨_, rfl⟩
  rw [hfo, hL] at HE
  have HFO := Lib.hid hfo
  have HL := Lib.hid hL
  generalize methL us vars 9 pf nf = LF at HME HE
  obtain ⟨av, cv, rfl, _⟩ := h.form
  obtain ⟨bv, ev, rfl, _⟩ := hv.form
  have HB2 := Lib.hid (alloc2_below w (.cells #[.int .i64 9, .string pf, .string nf, .slice a1 an1 ac1, .slice a2 an2 ac2] 31) (.cells #[.int .i64 kt, .string pt, .string nt, .slice b1 bn1 bc1, .slice b2 bn2 bc2] 31))
  have HB02 := Lib.hid (hb0.trans (HB2.out.mono hb0.size))
  have HSW := Lib.hid hb0.size
  have HBX := Lib.hid (fun (W : World) (hb : Below ((w.alloc (.cells #[.int .i64 9, .string pf, .string nf, .slice a1 an1 ac1, .slice a2 an2 ac2] 31)).alloc (.cells #[.int .i64 kt, .string pt, .string nt, .slice b1 bn1 bc1, .slice b2 bn2 bc2] 31)).heap.size ((w.alloc (.cells #[.int .i64 9, .string pf, .string nf, .slice a1 an1 ac1, .slice a2 an2 ac2] 31)).alloc (.cells #[.int .i64 kt, .string pt, .string nt, .slice b1 bn1 bc1, .slice b2 bn2 bc2] 31)) W) => (show (W.cell? ⟨w.heap.size, 0, none⟩ = some (.int .i64 9) ∧ W.cell? ⟨w.heap.size, 1, none⟩ = some (.string pf) ∧ W.cell? ⟨w.heap.size, 2, none⟩ = some (.string nf) ∧ W.cell? ⟨w.heap.size, 3, none⟩ = some (.slice a1 an1 ac1) ∧ W.cell? ⟨w.heap.size, 4, none⟩ = some (.slice a2 an2 ac2)) ∧ (W.cell? ⟨w.heap.size + 1, 0, none⟩ = some (.int .i64 kt) ∧ W.cell? ⟨w.heap.size + 1, 1, none⟩ = some (.string pt) ∧ W.cell? ⟨w.heap.size + 1, 2, none⟩ = some (.string nt) ∧ W.cell? ⟨w.heap.size + 1, 3, none⟩ = some (.slice b1 bn1 bc1) ∧ W.cell? ⟨w.heap.size + 1, 4, none⟩ = some (.slice b2 bn2 bc2)) ∧ Below w.heap.size w W from by
    obtain ⟨hj, hk, hbw⟩ := alloc_known2 hb
    exact ⟨⟨(cell_of_row _ _ 0 _ _ _ hj).trans rfl, (cell_of_row _ _ 1 _ _ _ hj).trans rfl, (cell_of_row _ _ 2 _ _ _ hj).trans rfl, (cell_of_row _ _ 3 _ _ _ hj).trans rfl, (cell_of_row _ _ 4 _ _ _ hj).trans rfl⟩, ⟨(cell_of_row _ _ 0 _ _ _ hk).trans rfl, (cell_of_row _ _ 1 _ _ _ hk).trans rfl, (cell_of_row _ _ 2 _ _ _ hk).trans rfl, (cell_of_row _ _ 3 _ _ _ hk).trans rfl, (cell_of_row _ _ 4 _ _ _ hk).trans rfl⟩, hbw⟩))
  clear h hv htf htt hb0 hbd hst hfo hL
  have e1 : (kt == 0) = false := by simpa using ht0
  clear ht0
  go_enter Try.func32, Try.ntmps32
  go_wp2_with (first | (go_at_call 21; refine (HS.out _ HB02.out).mono ?_; rintro e w3 ⟨rfl, hb3⟩; refine Hid.out ?_))
  refine Lib.hid ?_
  obtain ⟨⟨p0, p1, p2, p3, p4⟩, ⟨q0, q1, q2, q3, q4⟩, hbw3⟩ := HBX.out w3 hb3
  have HN3 := Lib.hid hb3
  have HB3 := Lib.hid hbw3
  have HB03 := Lib.hid (HB02.out.trans (hb3.mono HB02.out.size))
  clear hb3 hbw3
  go_wp2_with (first | (go_at_call 52; refine (HT.out w3 HB03.out).mono ?_; rintro e w5 ⟨hb5, kd, nm, of, vl, x0, x1, x2, x3, x4, x5, x6, x7, x8, xf, nf', cf, rfl, hl⟩; refine Hid.out ?_))
  refine Lib.hid ?_
  rw [HFO.out]
  have HN5 := Lib.hid (HN3.out.trans (hb5.mono HN3.out.size))
  clear p0 p1 p2 p3 p4 q0 q1 q2 q3 q4
  obtain ⟨⟨p0, p1, p2, p3, p4⟩, ⟨q0, q1, q2, q3, q4⟩, hbw5⟩ := HBX.out w5 HN5.out
  have HB5 := Lib.hid hbw5
  have HB05 := Lib.hid (HB03.out.trans (hb5.mono HB03.out.size))
  have HHL := Lib.hid hl
  have hsz5 : w.heap.size < w5.heap.size := World.block_lt_of_cell? w5 _ p0
  clear hb5 hbw5 hl
  obtain ⟨y0, y1, y2, y3, y4, vf, e, _, hfs⟩ := HHL.out
  have hvf : some (Value.slice xf nf' cf) = some vf := congrArg (fun l : List Value => l[9]?) e
  obtain rfl := Option.some.inj hvf
  rw [HL.out] at hfs
  obtain ⟨af, cf', ef, hfc, hfm, hff⟩ := hfs.form
  cases ef
  have HFS := Lib.hid hfs
  have hll := Nat.le_trans hfc hfm
  unfold maxLen at hll
  have HBD := Lib.hid (fun (W : World) (hb : Below (w5.alloc (.cells #[.int .i64 kd, .string nm, .string of, .int .i64 vl, .int .i64 x0, .string x1, .string x2, .slice x3 x4 x5, .slice x6 x7 x8, .slice xf L.length cf] 41)).heap.size (w5.alloc (.cells #[.int .i64 kd, .string nm, .string of, .int .i64 vl, .int .i64 x0, .string x1, .string x2, .slice x3 x4 x5, .slice x6 x7 x8, .slice xf L.length cf] 41)) W) => (show (W.cell? ⟨w.heap.size, 0, none⟩ = some (.int .i64 9) ∧ W.cell? ⟨w.heap.size, 1, none⟩ = some (.string pf) ∧ W.cell? ⟨w.heap.size, 2, none⟩ = some (.string nf) ∧ W.cell? ⟨w.heap.size, 3, none⟩ = some (.slice a1 an1 ac1) ∧ W.cell? ⟨w.heap.size, 4, none⟩ = some (.slice a2 an2 ac2)) ∧ W.cell? ⟨w5.heap.size, 9, none⟩ = some (.slice xf L.length cf) ∧ Below w.heap.size w W ∧ Below w0.heap.size w0 W from by
    obtain ⟨hj, hbw⟩ := alloc_known hb
    obtain ⟨⟨p0, p1, p2, p3, p4⟩, _, _⟩ := HBX.out W (HN5.out.trans (hbw.mono HN5.out.size))
    exact ⟨⟨p0, p1, p2, p3, p4⟩, (cell_of_row _ _ 9 _ _ _ hj).trans rfl, HB5.out.trans (hbw.mono HB5.out.size), HB05.out.trans (hbw.mono HB05.out.size)⟩))
  clear e hvf hfs HHL HBX
  go_wp2_with (first | (go_at_call 51; refine (HMU.out (w5.alloc (.cells #[.int .i64 kd, .string nm, .string of, .int .i64 vl, .int .i64 x0, .string x1, .string x2, .slice x3 x4 x5, .slice x6 x7 x8, .slice xf L.length cf] 41)) (HBD.out _ (Below.refl _ _)).2.2.2).mono ?_; rintro e w6 ⟨hb6, t0, t1, t2, t3, t4, t5, t6, t7, t8, rfl, hl⟩; refine Hid.out ?_))
  refine Lib.hid ?_
  rw [(lies_head hl).1] at HCO0
  have hfd := field31
  clear p0 p1 p2 p3 p4 q0 q1 q2 q3 q4
  obtain ⟨⟨p0, p1, p2, p3, p4⟩, _, hbw6, _⟩ := HBD.out w6 hb6
  have HN6 := Lib.hid hb6
  have HB6 := Lib.hid hbw6
  have hsz6 : w.heap.size < w6.heap.size := World.block_lt_of_cell? w6 _ p0
  clear hb6 hbw6 hl
  by_cases h8 : t0 = 8
  · subst h8
    have HCO : Hid (condB us vars 9 pf nf = true) := HCO0
    go_wp2_with (first | (go_at_call 29; refine (HME.out w6 (HBD.out _ HN6.out).2.2.2).mono ?_; rintro e w7 ⟨hb7, u7, rfl, hr7⟩; refine Hid.out ?_))
    refine Lib.hid ?_
    have hb7' := HN6.out.trans (hb7.mono HN6.out.size)
    obtain ⟨_, g9, hbw7, hb07⟩ := HBD.out w7 hb7'
    have HB7 := Lib.hid hbw7
    obtain ⟨a7, c7, rfl, _⟩ := hr7.form
    have HR7 := Lib.hid (show RowG 6 (LiesF w7 (d + 1)) w7 _ LF from hr7.mono (fun _ _ h => h.lies) (Below.refl _ _))
    have HF7 := Lib.hid (HFS.out.mono (LiesF.below hb07 (d + 1)) hb07)
    clear p0 p1 p2 p3 p4 HB6 hb7 hr7 hb7' hbw7 hb07 HS HT HFF HMU HME HBD HN3 HB3 HB03 HN5 HB5 HB05 HB2 HB02 HFS
    go_wp2_with fail
    go_loopw [88] (fun iv wr => ∃ i : Nat, i ≤ L.length ∧ iv = .int .i64 i ∧ Below w7.heap.size w7 wr ∧ Hid (hasAll LF L = hasAll LF (L.drop i))) (fun iv _ => L.length - (intOf iv).toNat)
    case atStart => exact ⟨0, by omega, rfl, Below.refl _ _, rfl⟩
    case round =>
      obtain ⟨i, hi, rfl, hb, H⟩ := hrel
      have HB := Lib.hid hb
      clear hb
      by_cases hilt : i < L.length
      · obtain ⟨bw, ow, rfl⟩ := hff (by omega)
        have hi0 : (0 : Int) ≤ (i : Int) := by omega
        have hi1 : (i : Int) < (L.length : Int) := by omega
        obtain ⟨cs, ⟨z0, z1, z2, z3, z4, rfl, hty⟩, hcs⟩ := HF7.out.get i L[i] (by simp)
        have HEI := Lib.hid (hasAll_at LF L i hilt)
        obtain ⟨m, hm⟩ : ∃ x, L[i] = x := ⟨_, rfl⟩
        rw [hm] at HEI hty hcs
        obtain ⟨wn, wt⟩ := m
        dsimp only at HEI hty hcs
        obtain ⟨y0, y1, y2, y3, y4, y5, y6, y7, y8, rfl, rfl, rfl, rfl, rfl⟩ := lies_form hty
        have hba := HB.out.alloc HB.out.size (.cells #[.string wn, .int .i64 y0, .string y1, .string y2, .slice y3 y4 y5, .slice y6 y7 y8] 52)
        have HC := Lib.hid (contains61_any (d + 1) (d + 1) (wr.alloc (.cells #[.string wn, .int .i64 y0, .string y1, .string y2, .slice y3 y4 y5, .slice y6 y7 y8] 52)) _ LF wr.heap.size wn y0 y1 y2 y3 y4 y5 y6 y7 y8 wt (HR7.out.mono (LiesF.below hba (d + 1)) hba) (Lies.below hba _ _ _ hty) (heap_alloc_new wr _))
        have HBA := Lib.hid hba
        have g0 := cell_on HB.out (hcs 0 _ rfl)
        rw [Nat.add_zero] at g0
        have g1 := cell_on HB.out (hcs 1 _ rfl)
        have g2 := cell_on HB.out (hcs 2 _ rfl)
        have g3 := cell_on HB.out (hcs 3 _ rfl)
        have g4 := cell_on HB.out (hcs 4 _ rfl)
        have g5 := cell_on HB.out (hcs 5 _ rfl)
        clear hcs hty hm hba
        cases hp : hasM LF ⟨wn, wt⟩
        all_goals
          rw [hp] at HC HEI
          clear hp
          go_wp2_with (first | (go_at_call 61; refine HC.out.mono ?_; rintro e w8 ⟨rfl, hb8⟩; have HB8 := Lib.hid (HBA.out.trans (hb8.mono HBA.out.size)); clear hb8))
        · go_ret
          obtain rfl : r = false := by rw [HE.out, H.out, HEI.out, HCO.out]; simp
          exact ⟨rfl, HB7.out.trans (HB8.out.mono HB7.out.size)⟩
        · exact ⟨⟨i + 1, by omega, by go_num, HB8.out, Lib.hid (by rw [H.out, HEI.out]; rfl)⟩, by simp [intOf]; omega⟩
      · have HR := Lib.hid (show hasAll LF L = true by rw [H.out, List.drop_eq_nil_of_le (by omega)]; rfl)
        clear H
        go_wp2_with fail
        go_ret
        obtain rfl : r = true := by rw [HE.out, HR.out, HCO.out]; rw [e1]; rfl
        exact ⟨rfl, HB7.out.trans (HB.out.mono HB7.out.size)⟩
  · have hne : (t0 != 8) = true := by simpa using h8
    have hne' : (t0 == 8) = false := by simpa using h8
    rw [hne'] at HCO0
    clear h8 hne'
    go_wp2_with fail
    go_ret
    obtain rfl : r = false := by rw [HE.out, HCO0.out]; simp
    exact ⟨rfl, HB6.out⟩
theorem fits32_any (d D : Nat) (w0 w : World) (v vv : Value) (us : List Unt) (vars : List Fld) (kf kt : Int) (pf nf pt nt : ByteArray) (a1 a2 b1 b2 : Option Addr) (an1 ac1 an2 ac2 bn1 bc1 bn2 bc2 : Nat) (tf tt : Ty) (h : RowG 4 (LiesU w0 d) w0 v us) (hv : RowG 6 (LiesF w0 d) w0 vv vars) (htf : Lies w0 D (.agg #[.int .i64 kf, .string pf, .string nf, .slice a1 an1 ac1, .slice a2 an2 ac2]) tf) (htt : Lies w0 D (.agg #[.int .i64 kt, .string pt, .string nt, .slice b1 bn1 bc1, .slice b2 bn2 bc2]) tt) (hb0 : Below w0.heap.size w0 w) (hbd : ∀ k p n, (baseL us k p n).length ≤ 1000000) (hst : ∀ k p n, ∀ x ∈ baseL us k p n, sizT x.ty ≤ 1000000000) :
    Calls Try.prog 32 #[v, vv, .agg #[.int .i64 kf, .string pf, .string nf, .slice a1 an1 ac1, .slice a2 an2 ac2], .agg #[.int .i64 kt, .string pt, .string nt, .slice b1 bn1 bc1, .slice b2 bn2 bc2]] w fun e w' => e = .returned (.bool (fitsB us vars kf pf nf kt pt nt (sameT tf tt))) ∧ Below w.heap.size w w' := by
  by_cases hz : kf = 0 ∨ kt = 0
  · exact fits32_low d D w0 w v vv us vars kf kt pf nf pt nt a1 a2 b1 b2 an1 ac1 an2 ac2 bn1 bc1 bn2 bc2 tf tt h hv htf htt hb0 hbd hst hz
  have h0 : ¬ kf = 0 := fun h => hz (.inl h)
  have ht0 : ¬ kt = 0 := fun h => hz (.inr h)
  by_cases hs1 : sameT tf tt = true
  · exact fits32_same d D w0 w v vv us vars kf kt pf nf pt nt a1 a2 b1 b2 an1 ac1 an2 ac2 bn1 bc1 bn2 bc2 tf tt h hv htf htt hb0 hbd hst h0 ht0 hs1
  · have hs : sameT tf tt = false := by simpa using hs1
    by_cases h4 : kf = 4
    · subst h4; exact fits32_nil d D w0 w v vv us vars kt pf nf pt nt a1 a2 b1 b2 an1 ac1 an2 ac2 bn1 bc1 bn2 bc2 tf tt h hv htf htt hb0 hbd hst ht0 hs
    cases hno : faceOk us kt pt nt
    · exact fits32_no d D w0 w v vv us vars kf kt pf nf pt nt a1 a2 b1 b2 an1 ac1 an2 ac2 bn1 bc1 bn2 bc2 tf tt h hv htf htt hb0 hbd hst h0 ht0 hs h4 hno
    by_cases h5 : kf = 5
    · subst h5; exact fits32_ptr d D w0 w v vv us vars kt pf nf pt nt a1 a2 b1 b2 an1 ac1 an2 ac2 bn1 bc1 bn2 bc2 tf tt h hv htf htt hb0 hbd hst ht0 hs hno
    by_cases h8 : kf = 8
    · subst h8; exact fits32_face d D w0 w v vv us vars kt pf nf pt nt a1 a2 b1 b2 an1 ac1 an2 ac2 bn1 bc1 bn2 bc2 tf tt h hv htf htt hb0 hbd hst ht0 hs hno
    by_cases h9 : kf = 9
    · subst h9; exact fits32_var d D w0 w v vv us vars kt pf nf pt nt a1 a2 b1 b2 an1 ac1 an2 ac2 bn1 bc1 bn2 bc2 tf tt h hv htf htt hb0 hbd hst ht0 hs hno
    exact fits32_other d D w0 w v vv us vars kf kt pf nf pt nt a1 a2 b1 b2 an1 ac1 an2 ac2 bn1 bc1 bn2 bc2 tf tt h hv htf htt hb0 hbd hst h0 ht0 hs h4 h5 h8 h9 hno
end Go.Proofs.Ytcelpmojhjnggaa
