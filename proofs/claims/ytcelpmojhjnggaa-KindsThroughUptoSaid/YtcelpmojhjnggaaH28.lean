/- The document's Fits. -/
import Derived.Test.YtcelpmojhjnggaaH27
namespace Go.Proofs.Ytcelpmojhjnggaa
open Go Go.RowKit Go.Sort Go.Deep KindsP
set_option maxHeartbeats 4000000
set_option maxRecDepth 100000

theorem hasAll_sort (H L : List Fld) : hasAll H (isort ltF L) = hasAll H L := by
  unfold hasAll
  rw [Bool.eq_iff_iff, List.all_eq_true, List.all_eq_true]
  exact ⟨fun h x hx => h x (isort_mem.2 hx), fun h x hx => h x (isort_mem.1 hx)⟩
theorem hasAll_face (us : List Unt) (vars : List Fld) (k : Int) (p n : ByteArray) (H : List Fld) (h : faceOk us k p n = true) : hasAll H (methL us vars k p n) = hasAll H (faceD us k p n).fields := by
  unfold faceOk at h
  simp only [Bool.and_eq_true, beq_iff_eq] at h
  obtain ⟨rfl, h⟩ := h
  have e : (((findU us p n).getD zD).kind == 4) = true := by simpa using h
  unfold methL baseL faceD
  rw [if_neg (by decide), if_neg (by decide), if_pos rfl, if_pos e, if_pos rfl, hasAll_sort]
theorem fits34_low (d D : Nat) (w0 w : World) (v vv : Value) (us : List Unt) (vars : List Fld) (kf kt : Int) (pf nf pt nt : ByteArray) (a1 a2 b1 b2 : Option Addr) (an1 ac1 an2 ac2 bn1 bc1 bn2 bc2 : Nat) (tf tt : Ty) (h : RowG 4 (LiesU w0 d) w0 v us) (hv : RowG 6 (LiesF w0 d) w0 vv vars) (htf : Lies w0 D (.agg #[.int .i64 kf, .string pf, .string nf, .slice a1 an1 ac1, .slice a2 an2 ac2]) tf) (htt : Lies w0 D (.agg #[.int .i64 kt, .string pt, .string nt, .slice b1 bn1 bc1, .slice b2 bn2 bc2]) tt) (hb0 : Below w0.heap.size w0 w) (hbd : ∀ k p n, (baseL us k p n).length ≤ 1000000) (hz : kf = 0 ∨ kt = 0) :
    Calls Try.prog 34 #[v, vv, .agg #[.int .i64 kf, .string pf, .string nf, .slice a1 an1 ac1, .slice a2 an2 ac2], .agg #[.int .i64 kt, .string pt, .string nt, .slice b1 bn1 bc1, .slice b2 bn2 bc2]] w fun e w' => e = .returned (.bool (fitsB us vars kf pf nf kt pt nt (sameT tf tt))) ∧ Below w.heap.size w w' := by
  have HS := Lib.hid (fun W (hb : Below w0.heap.size w0 W) => Same_any D D W _ _ tf tt (Lies.below hb _ _ _ htf) (Lies.below hb _ _ _ htt))
  have HT := Lib.hid (fun W (hb : Below w0.heap.size w0 W) => found63_any d w0 W v us kt pt nt b1 b2 bn1 bc1 bn2 bc2 h hb)
  have HFF := Lib.hid (fun W (hb : Below w0.heap.size w0 W) => found63_any d w0 W v us kf pf nf a1 a2 an1 ac1 an2 ac2 h hb)
  have HKN := Lib.hid (fun W (hb : Below w0.heap.size w0 W) => known60_any d w0 W vv vars nf hv hb)
  have HHA := Lib.hid (fun W (hb : Below w0.heap.size w0 W) => has64_any d w0 W v vv us vars kf kt pf nf pt nt a1 a2 b1 b2 an1 ac1 an2 ac2 bn1 bc1 bn2 bc2 h hv hb (fun p n => by have := hbd 8 p n; unfold baseL at this; rw [if_neg (by decide), if_pos rfl] at this; exact this) (fun p n => by have := hbd 5 p n; unfold baseL at this; rw [if_pos rfl] at this; exact this))
  have HE := Lib.hid (fits_eq us vars kf pf nf kt pt nt (sameT tf tt))
  generalize fitsB us vars kf pf nf kt pt nt (sameT tf tt) = r at HE ⊢
  obtain ⟨s, hs''⟩ : ∃ s, sameT tf tt = s := ⟨_, rfl⟩
  rw [hs''] at HE HS
  clear hs''
  have HMT := Lib.hid (fun h => hasAll_face us vars kt pt nt (methL us vars kf pf nf) h)
  obtain ⟨fo, hfo⟩ : ∃ fo, faceOk us kt pt nt = fo := ⟨_, rfl⟩
  rw [hfo] at HE HMT
  have HFO := Lib.hid hfo
  generalize (faceD us kt pt nt).fields = L at HE HMT
  generalize methL us vars kf pf nf = LF at HHA HE HMT
  generalize methL us vars kt pt nt = LT at HHA HMT
  have HV := Lib.hid hv
  obtain ⟨av, cv, rfl, _⟩ := h.form
  obtain ⟨bv, ev, rfl, hcc, hcm, hfv⟩ := hv.form
  have hll := Nat.le_trans hcc hcm
  unfold maxLen at hll
  have HB2 := Lib.hid (alloc2_below w (.cells #[.int .i64 kf, .string pf, .string nf, .slice a1 an1 ac1, .slice a2 an2 ac2] 31) (.cells #[.int .i64 kt, .string pt, .string nt, .slice b1 bn1 bc1, .slice b2 bn2 bc2] 31))
  have HB02 := Lib.hid (hb0.trans (HB2.out.mono hb0.size))
  have HBX := Lib.hid (fun (W : World) (hb : Below ((w.alloc (.cells #[.int .i64 kf, .string pf, .string nf, .slice a1 an1 ac1, .slice a2 an2 ac2] 31)).alloc (.cells #[.int .i64 kt, .string pt, .string nt, .slice b1 bn1 bc1, .slice b2 bn2 bc2] 31)).heap.size ((w.alloc (.cells #[.int .i64 kf, .string pf, .string nf, .slice a1 an1 ac1, .slice a2 an2 ac2] 31)).alloc (.cells #[.int .i64 kt, .string pt, .string nt, .slice b1 bn1 bc1, .slice b2 bn2 bc2] 31)) W) => (show (W.cell? ⟨w.heap.size, 0, none⟩ = some (.int .i64 kf) ∧ W.cell? ⟨w.heap.size, 1, none⟩ = some (.string pf) ∧ W.cell? ⟨w.heap.size, 2, none⟩ = some (.string nf) ∧ W.cell? ⟨w.heap.size, 3, none⟩ = some (.slice a1 an1 ac1) ∧ W.cell? ⟨w.heap.size, 4, none⟩ = some (.slice a2 an2 ac2)) ∧ (W.cell? ⟨w.heap.size + 1, 0, none⟩ = some (.int .i64 kt) ∧ W.cell? ⟨w.heap.size + 1, 1, none⟩ = some (.string pt) ∧ W.cell? ⟨w.heap.size + 1, 2, none⟩ = some (.string nt) ∧ W.cell? ⟨w.heap.size + 1, 3, none⟩ = some (.slice b1 bn1 bc1) ∧ W.cell? ⟨w.heap.size + 1, 4, none⟩ = some (.slice b2 bn2 bc2)) ∧ Below w.heap.size w W ∧ Below w0.heap.size w0 W from by
    obtain ⟨hj, hk, hbw⟩ := alloc_known2 hb
    exact ⟨⟨(cell_of_row _ _ 0 _ _ _ hj).trans rfl, (cell_of_row _ _ 1 _ _ _ hj).trans rfl, (cell_of_row _ _ 2 _ _ _ hj).trans rfl, (cell_of_row _ _ 3 _ _ _ hj).trans rfl, (cell_of_row _ _ 4 _ _ _ hj).trans rfl⟩, ⟨(cell_of_row _ _ 0 _ _ _ hk).trans rfl, (cell_of_row _ _ 1 _ _ _ hk).trans rfl, (cell_of_row _ _ 2 _ _ _ hk).trans rfl, (cell_of_row _ _ 3 _ _ _ hk).trans rfl, (cell_of_row _ _ 4 _ _ _ hk).trans rfl⟩, hbw, HB02.out.trans (hb.mono HB02.out.size)⟩))
  clear h hv htf htt hb0 hbd hfo
  by_cases h0 : kf = 0
  · subst h0
    go_enter Try.func34, Try.ntmps34
    go_wp2_with fail
    go_ret
    obtain rfl : r = false := by rw [HE.out]; simp
    exact ⟨rfl, HB2.out⟩
  · have e0 : (kf == 0) = false := by simpa using h0
    obtain rfl : kt = 0 := by rcases hz with hz | hz; exact absurd hz h0; exact hz
    clear hz h0
    go_enter Try.func34, Try.ntmps34
    go_wp2_with fail
    go_ret
    obtain rfl : r = false := by rw [HE.out]; simp
    exact ⟨rfl, HB2.out⟩
theorem fits34_same (d D : Nat) (w0 w : World) (v vv : Value) (us : List Unt) (vars : List Fld) (kf kt : Int) (pf nf pt nt : ByteArray) (a1 a2 b1 b2 : Option Addr) (an1 ac1 an2 ac2 bn1 bc1 bn2 bc2 : Nat) (tf tt : Ty) (h : RowG 4 (LiesU w0 d) w0 v us) (hv : RowG 6 (LiesF w0 d) w0 vv vars) (htf : Lies w0 D (.agg #[.int .i64 kf, .string pf, .string nf, .slice a1 an1 ac1, .slice a2 an2 ac2]) tf) (htt : Lies w0 D (.agg #[.int .i64 kt, .string pt, .string nt, .slice b1 bn1 bc1, .slice b2 bn2 bc2]) tt) (hb0 : Below w0.heap.size w0 w) (hbd : ∀ k p n, (baseL us k p n).length ≤ 1000000) (h0 : ¬ kf = 0) (ht0 : ¬ kt = 0) (hs : sameT tf tt = true) :
    Calls Try.prog 34 #[v, vv, .agg #[.int .i64 kf, .string pf, .string nf, .slice a1 an1 ac1, .slice a2 an2 ac2], .agg #[.int .i64 kt, .string pt, .string nt, .slice b1 bn1 bc1, .slice b2 bn2 bc2]] w fun e w' => e = .returned (.bool (fitsB us vars kf pf nf kt pt nt (sameT tf tt))) ∧ Below w.heap.size w w' := by
  have HS := Lib.hid (fun W (hb : Below w0.heap.size w0 W) => Same_any D D W _ _ tf tt (Lies.below hb _ _ _ htf) (Lies.below hb _ _ _ htt))
  have HT := Lib.hid (fun W (hb : Below w0.heap.size w0 W) => found63_any d w0 W v us kt pt nt b1 b2 bn1 bc1 bn2 bc2 h hb)
  have HFF := Lib.hid (fun W (hb : Below w0.heap.size w0 W) => found63_any d w0 W v us kf pf nf a1 a2 an1 ac1 an2 ac2 h hb)
  have HKN := Lib.hid (fun W (hb : Below w0.heap.size w0 W) => known60_any d w0 W vv vars nf hv hb)
  have HHA := Lib.hid (fun W (hb : Below w0.heap.size w0 W) => has64_any d w0 W v vv us vars kf kt pf nf pt nt a1 a2 b1 b2 an1 ac1 an2 ac2 bn1 bc1 bn2 bc2 h hv hb (fun p n => by have := hbd 8 p n; unfold baseL at this; rw [if_neg (by decide), if_pos rfl] at this; exact this) (fun p n => by have := hbd 5 p n; unfold baseL at this; rw [if_pos rfl] at this; exact this))
  have HE := Lib.hid (fits_eq us vars kf pf nf kt pt nt (sameT tf tt))
  generalize fitsB us vars kf pf nf kt pt nt (sameT tf tt) = r at HE ⊢
  have hs' := hs
  obtain ⟨s, hs''⟩ : ∃ s, sameT tf tt = s := ⟨_, rfl⟩
  rw [hs''] at HE HS hs
  clear hs' hs''
  obtain rfl := hs.symm
  have HMT := Lib.hid (fun h => hasAll_face us vars kt pt nt (methL us vars kf pf nf) h)
  obtain ⟨fo, hfo⟩ : ∃ fo, faceOk us kt pt nt = fo := ⟨_, rfl⟩
  rw [hfo] at HE HMT
  have HFO := Lib.hid hfo
  generalize (faceD us kt pt nt).fields = L at HE HMT
  generalize methL us vars kf pf nf = LF at HHA HE HMT
  generalize methL us vars kt pt nt = LT at HHA HMT
  have HV := Lib.hid hv
  obtain ⟨av, cv, rfl, _⟩ := h.form
  obtain ⟨bv, ev, rfl, hcc, hcm, hfv⟩ := hv.form
  have hll := Nat.le_trans hcc hcm
  unfold maxLen at hll
  have HB2 := Lib.hid (alloc2_below w (.cells #[.int .i64 kf, .string pf, .string nf, .slice a1 an1 ac1, .slice a2 an2 ac2] 31) (.cells #[.int .i64 kt, .string pt, .string nt, .slice b1 bn1 bc1, .slice b2 bn2 bc2] 31))
  have HB02 := Lib.hid (hb0.trans (HB2.out.mono hb0.size))
  have HBX := Lib.hid (fun (W : World) (hb : Below ((w.alloc (.cells #[.int .i64 kf, .string pf, .string nf, .slice a1 an1 ac1, .slice a2 an2 ac2] 31)).alloc (.cells #[.int .i64 kt, .string pt, .string nt, .slice b1 bn1 bc1, .slice b2 bn2 bc2] 31)).heap.size ((w.alloc (.cells #[.int .i64 kf, .string pf, .string nf, .slice a1 an1 ac1, .slice a2 an2 ac2] 31)).alloc (.cells #[.int .i64 kt, .string pt, .string nt, .slice b1 bn1 bc1, .slice b2 bn2 bc2] 31)) W) => (show (W.cell? ⟨w.heap.size, 0, none⟩ = some (.int .i64 kf) ∧ W.cell? ⟨w.heap.size, 1, none⟩ = some (.string pf) ∧ W.cell? ⟨w.heap.size, 2, none⟩ = some (.string nf) ∧ W.cell? ⟨w.heap.size, 3, none⟩ = some (.slice a1 an1 ac1) ∧ W.cell? ⟨w.heap.size, 4, none⟩ = some (.slice a2 an2 ac2)) ∧ (W.cell? ⟨w.heap.size + 1, 0, none⟩ = some (.int .i64 kt) ∧ W.cell? ⟨w.heap.size + 1, 1, none⟩ = some (.string pt) ∧ W.cell? ⟨w.heap.size + 1, 2, none⟩ = some (.string nt) ∧ W.cell? ⟨w.heap.size + 1, 3, none⟩ = some (.slice b1 bn1 bc1) ∧ W.cell? ⟨w.heap.size + 1, 4, none⟩ = some (.slice b2 bn2 bc2)) ∧ Below w.heap.size w W ∧ Below w0.heap.size w0 W from by
    obtain ⟨hj, hk, hbw⟩ := alloc_known2 hb
    exact ⟨⟨(cell_of_row _ _ 0 _ _ _ hj).trans rfl, (cell_of_row _ _ 1 _ _ _ hj).trans rfl, (cell_of_row _ _ 2 _ _ _ hj).trans rfl, (cell_of_row _ _ 3 _ _ _ hj).trans rfl, (cell_of_row _ _ 4 _ _ _ hj).trans rfl⟩, ⟨(cell_of_row _ _ 0 _ _ _ hk).trans rfl, (cell_of_row _ _ 1 _ _ _ hk).trans rfl, (cell_of_row _ _ 2 _ _ _ hk).trans rfl, (cell_of_row _ _ 3 _ _ _ hk).trans rfl, (cell_of_row _ _ 4 _ _ _ hk).trans rfl⟩, hbw, HB02.out.trans (hb.mono HB02.out.size)⟩))
  clear h hv htf htt hb0 hbd hfo
  have e0 : (kf == 0) = false := by simpa using h0
  have e1 : (kt == 0) = false := by simpa using ht0
  clear h0 ht0
  go_enter Try.func34, Try.ntmps34
  go_wp2_with (first | (go_at_call 19; refine (HS.out _ HB02.out).mono ?_; rintro e w3 ⟨rfl, hb3⟩; refine Hid.out ?_))
  refine Lib.hid ?_
  obtain ⟨⟨p0, p1, p2, p3, p4⟩, ⟨q0, q1, q2, q3, q4⟩, hbw3, hbz3⟩ := HBX.out w3 hb3
  have HN3 := Lib.hid hb3
  have HB3 := Lib.hid hbw3
  have HB03 := Lib.hid hbz3
  clear hb3 hbw3 hbz3
  go_wp2_with fail
  go_ret
  obtain rfl : r = true := by rw [HE.out, e0, e1]; rfl
  exact ⟨rfl, HB3.out⟩
theorem fits34_nil (d D : Nat) (w0 w : World) (v vv : Value) (us : List Unt) (vars : List Fld) (kt : Int) (pf nf pt nt : ByteArray) (a1 a2 b1 b2 : Option Addr) (an1 ac1 an2 ac2 bn1 bc1 bn2 bc2 : Nat) (tf tt : Ty) (h : RowG 4 (LiesU w0 d) w0 v us) (hv : RowG 6 (LiesF w0 d) w0 vv vars) (htf : Lies w0 D (.agg #[.int .i64 4, .string pf, .string nf, .slice a1 an1 ac1, .slice a2 an2 ac2]) tf) (htt : Lies w0 D (.agg #[.int .i64 kt, .string pt, .string nt, .slice b1 bn1 bc1, .slice b2 bn2 bc2]) tt) (hb0 : Below w0.heap.size w0 w) (hbd : ∀ k p n, (baseL us k p n).length ≤ 1000000) (ht0 : ¬ kt = 0) (hs : sameT tf tt = false) :
    Calls Try.prog 34 #[v, vv, .agg #[.int .i64 4, .string pf, .string nf, .slice a1 an1 ac1, .slice a2 an2 ac2], .agg #[.int .i64 kt, .string pt, .string nt, .slice b1 bn1 bc1, .slice b2 bn2 bc2]] w fun e w' => e = .returned (.bool (fitsB us vars 4 pf nf kt pt nt (sameT tf tt))) ∧ Below w.heap.size w w' := by
  have HS := Lib.hid (fun W (hb : Below w0.heap.size w0 W) => Same_any D D W _ _ tf tt (Lies.below hb _ _ _ htf) (Lies.below hb _ _ _ htt))
  have HT := Lib.hid (fun W (hb : Below w0.heap.size w0 W) => found63_any d w0 W v us kt pt nt b1 b2 bn1 bc1 bn2 bc2 h hb)
  have HFF := Lib.hid (fun W (hb : Below w0.heap.size w0 W) => found63_any d w0 W v us 4 pf nf a1 a2 an1 ac1 an2 ac2 h hb)
  have HKN := Lib.hid (fun W (hb : Below w0.heap.size w0 W) => known60_any d w0 W vv vars nf hv hb)
  have HHA := Lib.hid (fun W (hb : Below w0.heap.size w0 W) => has64_any d w0 W v vv us vars 4 kt pf nf pt nt a1 a2 b1 b2 an1 ac1 an2 ac2 bn1 bc1 bn2 bc2 h hv hb (fun p n => by have := hbd 8 p n; unfold baseL at this; rw [if_neg (by decide), if_pos rfl] at this; exact this) (fun p n => by have := hbd 5 p n; unfold baseL at this; rw [if_pos rfl] at this; exact this))
  have HE := Lib.hid (fits_eq us vars 4 pf nf kt pt nt (sameT tf tt))
  generalize fitsB us vars 4 pf nf kt pt nt (sameT tf tt) = r at HE ⊢
  have hs' := hs
  obtain ⟨s, hs''⟩ : ∃ s, sameT tf tt = s := ⟨_, rfl⟩
  rw [hs''] at HE HS hs
  clear hs' hs''
  obtain rfl := hs.symm
  have HMT := Lib.hid (fun h => hasAll_face us vars kt pt nt (methL us vars 4 pf nf) h)
  obtain ⟨fo, hfo⟩ : ∃ fo, faceOk us kt pt nt = fo := ⟨_, rfl⟩
  rw [hfo] at HE HMT
  have HFO := Lib.hid hfo
  generalize (faceD us kt pt nt).fields = L at HE HMT
  generalize methL us vars 4 pf nf = LF at HHA HE HMT
  generalize methL us vars kt pt nt = LT at HHA HMT
  have HV := Lib.hid hv
  obtain ⟨av, cv, rfl, _⟩ := h.form
  obtain ⟨bv, ev, rfl, hcc, hcm, hfv⟩ := hv.form
  have hll := Nat.le_trans hcc hcm
  unfold maxLen at hll
  have HB2 := Lib.hid (alloc2_below w (.cells #[.int .i64 4, .string pf, .string nf, .slice a1 an1 ac1, .slice a2 an2 ac2] 31) (.cells #[.int .i64 kt, .string pt, .string nt, .slice b1 bn1 bc1, .slice b2 bn2 bc2] 31))
  have HB02 := Lib.hid (hb0.trans (HB2.out.mono hb0.size))
  have HBX := Lib.hid (fun (W : World) (hb : Below ((w.alloc (.cells #[.int .i64 4, .string pf, .string nf, .slice a1 an1 ac1, .slice a2 an2 ac2] 31)).alloc (.cells #[.int .i64 kt, .string pt, .string nt, .slice b1 bn1 bc1, .slice b2 bn2 bc2] 31)).heap.size ((w.alloc (.cells #[.int .i64 4, .string pf, .string nf, .slice a1 an1 ac1, .slice a2 an2 ac2] 31)).alloc (.cells #[.int .i64 kt, .string pt, .string nt, .slice b1 bn1 bc1, .slice b2 bn2 bc2] 31)) W) => (show (W.cell? ⟨w.heap.size, 0, none⟩ = some (.int .i64 4) ∧ W.cell? ⟨w.heap.size, 1, none⟩ = some (.string pf) ∧ W.cell? ⟨w.heap.size, 2, none⟩ = some (.string nf) ∧ W.cell? ⟨w.heap.size, 3, none⟩ = some (.slice a1 an1 ac1) ∧ W.cell? ⟨w.heap.size, 4, none⟩ = some (.slice a2 an2 ac2)) ∧ (W.cell? ⟨w.heap.size + 1, 0, none⟩ = some (.int .i64 kt) ∧ W.cell? ⟨w.heap.size + 1, 1, none⟩ = some (.string pt) ∧ W.cell? ⟨w.heap.size + 1, 2, none⟩ = some (.string nt) ∧ W.cell? ⟨w.heap.size + 1, 3, none⟩ = some (.slice b1 bn1 bc1) ∧ W.cell? ⟨w.heap.size + 1, 4, none⟩ = some (.slice b2 bn2 bc2)) ∧ Below w.heap.size w W ∧ Below w0.heap.size w0 W from by
    obtain ⟨hj, hk, hbw⟩ := alloc_known2 hb
    exact ⟨⟨(cell_of_row _ _ 0 _ _ _ hj).trans rfl, (cell_of_row _ _ 1 _ _ _ hj).trans rfl, (cell_of_row _ _ 2 _ _ _ hj).trans rfl, (cell_of_row _ _ 3 _ _ _ hj).trans rfl, (cell_of_row _ _ 4 _ _ _ hj).trans rfl⟩, ⟨(cell_of_row _ _ 0 _ _ _ hk).trans rfl, (cell_of_row _ _ 1 _ _ _ hk).trans rfl, (cell_of_row _ _ 2 _ _ _ hk).trans rfl, (cell_of_row _ _ 3 _ _ _ hk).trans rfl, (cell_of_row _ _ 4 _ _ _ hk).trans rfl⟩, hbw, HB02.out.trans (hb.mono HB02.out.size)⟩))
  clear h hv htf htt hb0 hbd hfo
  have e1 : (kt == 0) = false := by simpa using ht0
  clear ht0
  go_enter Try.func34, Try.ntmps34
  go_wp2_with (first | (go_at_call 19; refine (HS.out _ HB02.out).mono ?_; rintro e w3 ⟨rfl, hb3⟩; refine Hid.out ?_))
  refine Lib.hid ?_
  obtain ⟨⟨p0, p1, p2, p3, p4⟩, ⟨q0, q1, q2, q3, q4⟩, hbw3, hbz3⟩ := HBX.out w3 hb3
  have HN3 := Lib.hid hb3
  have HB3 := Lib.hid hbw3
  have HB03 := Lib.hid hbz3
  clear hb3 hbw3 hbz3
  by_cases hk5 : kt = 5
  · subst hk5
    go_wp2_with fail
    go_ret
    obtain rfl : r = true := by rw [HE.out]; rfl
    exact ⟨rfl, HB3.out⟩
  by_cases hk6 : kt = 6
  · subst hk6
    go_wp2_with fail
    go_ret
    obtain rfl : r = true := by rw [HE.out]; rfl
    exact ⟨rfl, HB3.out⟩
  by_cases hk7 : kt = 7
  · subst hk7
    go_wp2_with fail
    go_ret
    obtain rfl : r = true := by rw [HE.out]; rfl
    exact ⟨rfl, HB3.out⟩
  by_cases hk8 : kt = 8
  · subst hk8
    go_wp2_with fail
    go_ret
    obtain rfl : r = true := by rw [HE.out]; rfl
    exact ⟨rfl, HB3.out⟩
  have e5 : (kt == 5) = false := by simpa using hk5
  have e6 : (kt == 6) = false := by simpa using hk6
  have e7 : (kt == 7) = false := by simpa using hk7
  have e8 : (kt == 8) = false := by simpa using hk8
  clear hk5 hk6 hk7 hk8
  go_wp2_with fail
  go_ret
  obtain rfl : r = false := by rw [HE.out, e1, e5, e6, e7, e8]; rfl
  exact ⟨rfl, HB3.out⟩
theorem fits34_no (d D : Nat) (w0 w : World) (v vv : Value) (us : List Unt) (vars : List Fld) (kf kt : Int) (pf nf pt nt : ByteArray) (a1 a2 b1 b2 : Option Addr) (an1 ac1 an2 ac2 bn1 bc1 bn2 bc2 : Nat) (tf tt : Ty) (h : RowG 4 (LiesU w0 d) w0 v us) (hv : RowG 6 (LiesF w0 d) w0 vv vars) (htf : Lies w0 D (.agg #[.int .i64 kf, .string pf, .string nf, .slice a1 an1 ac1, .slice a2 an2 ac2]) tf) (htt : Lies w0 D (.agg #[.int .i64 kt, .string pt, .string nt, .slice b1 bn1 bc1, .slice b2 bn2 bc2]) tt) (hb0 : Below w0.heap.size w0 w) (hbd : ∀ k p n, (baseL us k p n).length ≤ 1000000) (h0 : ¬ kf = 0) (ht0 : ¬ kt = 0) (hs : sameT tf tt = false) (h4 : ¬ kf = 4) (hno : faceOk us kt pt nt = false) :
    Calls Try.prog 34 #[v, vv, .agg #[.int .i64 kf, .string pf, .string nf, .slice a1 an1 ac1, .slice a2 an2 ac2], .agg #[.int .i64 kt, .string pt, .string nt, .slice b1 bn1 bc1, .slice b2 bn2 bc2]] w fun e w' => e = .returned (.bool (fitsB us vars kf pf nf kt pt nt (sameT tf tt))) ∧ Below w.heap.size w w' := by
  have HS := Lib.hid (fun W (hb : Below w0.heap.size w0 W) => Same_any D D W _ _ tf tt (Lies.below hb _ _ _ htf) (Lies.below hb _ _ _ htt))
  have HT := Lib.hid (fun W (hb : Below w0.heap.size w0 W) => found63_any d w0 W v us kt pt nt b1 b2 bn1 bc1 bn2 bc2 h hb)
  have HFF := Lib.hid (fun W (hb : Below w0.heap.size w0 W) => found63_any d w0 W v us kf pf nf a1 a2 an1 ac1 an2 ac2 h hb)
  have HKN := Lib.hid (fun W (hb : Below w0.heap.size w0 W) => known60_any d w0 W vv vars nf hv hb)
  have HHA := Lib.hid (fun W (hb : Below w0.heap.size w0 W) => has64_any d w0 W v vv us vars kf kt pf nf pt nt a1 a2 b1 b2 an1 ac1 an2 ac2 bn1 bc1 bn2 bc2 h hv hb (fun p n => by have := hbd 8 p n; unfold baseL at this; rw [if_neg (by decide), if_pos rfl] at this; exact this) (fun p n => by have := hbd 5 p n; unfold baseL at this; rw [if_pos rfl] at this; exact this))
  have HE := Lib.hid (fits_eq us vars kf pf nf kt pt nt (sameT tf tt))
  generalize fitsB us vars kf pf nf kt pt nt (sameT tf tt) = r at HE ⊢
  have hs' := hs
  obtain ⟨s, hs''⟩ : ∃ s, sameT tf tt = s := ⟨_, rfl⟩
  rw [hs''] at HE HS hs
  clear hs' hs''
  obtain rfl := hs.symm
  have HMT := Lib.hid (fun h => hasAll_face us vars kt pt nt (methL us vars kf pf nf) h)
  obtain ⟨fo, hfo⟩ : ∃ fo, faceOk us kt pt nt = fo := ⟨_, rfl⟩
  rw [hfo] at HE HMT hno
  obtain rfl := hno.symm
  have HFO := Lib.hid hfo
  generalize (faceD us kt pt nt).fields = L at HE HMT
  generalize methL us vars kf pf nf = LF at HHA HE HMT
  generalize methL us vars kt pt nt = LT at HHA HMT
  have HV := Lib.hid hv
  obtain ⟨av, cv, rfl, _⟩ := h.form
  obtain ⟨bv, ev, rfl, hcc, hcm, hfv⟩ := hv.form
  have hll := Nat.le_trans hcc hcm
  unfold maxLen at hll
  have HB2 := Lib.hid (alloc2_below w (.cells #[.int .i64 kf, .string pf, .string nf, .slice a1 an1 ac1, .slice a2 an2 ac2] 31) (.cells #[.int .i64 kt, .string pt, .string nt, .slice b1 bn1 bc1, .slice b2 bn2 bc2] 31))
  have HB02 := Lib.hid (hb0.trans (HB2.out.mono hb0.size))
  have HBX := Lib.hid (fun (W : World) (hb : Below ((w.alloc (.cells #[.int .i64 kf, .string pf, .string nf, .slice a1 an1 ac1, .slice a2 an2 ac2] 31)).alloc (.cells #[.int .i64 kt, .string pt, .string nt, .slice b1 bn1 bc1, .slice b2 bn2 bc2] 31)).heap.size ((w.alloc (.cells #[.int .i64 kf, .string pf, .string nf, .slice a1 an1 ac1, .slice a2 an2 ac2] 31)).alloc (.cells #[.int .i64 kt, .string pt, .string nt, .slice b1 bn1 bc1, .slice b2 bn2 bc2] 31)) W) => (show (W.cell? ⟨w.heap.size, 0, none⟩ = some (.int .i64 kf) ∧ W.cell? ⟨w.heap.size, 1, none⟩ = some (.string pf) ∧ W.cell? ⟨w.heap.size, 2, none⟩ = some (.string nf) ∧ W.cell? ⟨w.heap.size, 3, none⟩ = some (.slice a1 an1 ac1) ∧ W.cell? ⟨w.heap.size, 4, none⟩ = some (.slice a2 an2 ac2)) ∧ (W.cell? ⟨w.heap.size + 1, 0, none⟩ = some (.int .i64 kt) ∧ W.cell? ⟨w.heap.size + 1, 1, none⟩ = some (.string pt) ∧ W.cell? ⟨w.heap.size + 1, 2, none⟩ = some (.string nt) ∧ W.cell? ⟨w.heap.size + 1, 3, none⟩ = some (.slice b1 bn1 bc1) ∧ W.cell? ⟨w.heap.size + 1, 4, none⟩ = some (.slice b2 bn2 bc2)) ∧ Below w.heap.size w W ∧ Below w0.heap.size w0 W from by
    obtain ⟨hj, hk, hbw⟩ := alloc_known2 hb
    exact ⟨⟨(cell_of_row _ _ 0 _ _ _ hj).trans rfl, (cell_of_row _ _ 1 _ _ _ hj).trans rfl, (cell_of_row _ _ 2 _ _ _ hj).trans rfl, (cell_of_row _ _ 3 _ _ _ hj).trans rfl, (cell_of_row _ _ 4 _ _ _ hj).trans rfl⟩, ⟨(cell_of_row _ _ 0 _ _ _ hk).trans rfl, (cell_of_row _ _ 1 _ _ _ hk).trans rfl, (cell_of_row _ _ 2 _ _ _ hk).trans rfl, (cell_of_row _ _ 3 _ _ _ hk).trans rfl, (cell_of_row _ _ 4 _ _ _ hk).trans rfl⟩, hbw, HB02.out.trans (hb.mono HB02.out.size)⟩))
  clear h hv htf htt hb0 hbd hfo
  rw [if_neg h4] at HE
  have e0 : (kf == 0) = false := by simpa using h0
  have e1 : (kt == 0) = false := by simpa using ht0
  have e4 : (kf == 4) = false := by simpa using h4
  clear h0 ht0 h4
  go_enter Try.func34, Try.ntmps34
  go_wp2_with (first | (go_at_call 19; refine (HS.out _ HB02.out).mono ?_; rintro e w3 ⟨rfl, hb3⟩; refine Hid.out ?_))
  refine Lib.hid ?_
  obtain ⟨⟨p0, p1, p2, p3, p4⟩, ⟨q0, q1, q2, q3, q4⟩, hbw3, hbz3⟩ := HBX.out w3 hb3
  have HN3 := Lib.hid hb3
  have HB3 := Lib.hid hbw3
  have HB03 := Lib.hid hbz3
  clear hb3 hbw3 hbz3
  go_wp2_with (first | (go_at_call 63; refine (HT.out w3 HB03.out).mono ?_; rintro e w5 ⟨rfl, hb5⟩; refine Hid.out ?_))
  refine Lib.hid ?_
  rw [HFO.out]
  have HN5 := Lib.hid (HN3.out.trans (hb5.mono HN3.out.size))
  clear p0 p1 p2 p3 p4 q0 q1 q2 q3 q4
  obtain ⟨⟨p0, p1, p2, p3, p4⟩, ⟨q0, q1, q2, q3, q4⟩, hbw5, hbz5⟩ := HBX.out w5 HN5.out
  have HB5 := Lib.hid hbw5
  have HB05 := Lib.hid hbz5
  clear hb5 hbw5 hbz5
  go_wp2_with fail
  go_ret
  obtain rfl : r = false := by rw [HE.out]; simp
  exact ⟨rfl, HB5.out⟩
theorem fits34_other (d D : Nat) (w0 w : World) (v vv : Value) (us : List Unt) (vars : List Fld) (kf kt : Int) (pf nf pt nt : ByteArray) (a1 a2 b1 b2 : Option Addr) (an1 ac1 an2 ac2 bn1 bc1 bn2 bc2 : Nat) (tf tt : Ty) (h : RowG 4 (LiesU w0 d) w0 v us) (hv : RowG 6 (LiesF w0 d) w0 vv vars) (htf : Lies w0 D (.agg #[.int .i64 kf, .string pf, .string nf, .slice a1 an1 ac1, .slice a2 an2 ac2]) tf) (htt : Lies w0 D (.agg #[.int .i64 kt, .string pt, .string nt, .slice b1 bn1 bc1, .slice b2 bn2 bc2]) tt) (hb0 : Below w0.heap.size w0 w) (hbd : ∀ k p n, (baseL us k p n).length ≤ 1000000) (h0 : ¬ kf = 0) (ht0 : ¬ kt = 0) (hs : sameT tf tt = false) (h4 : ¬ kf = 4) (h5 : ¬ kf = 5) (h8 : ¬ kf = 8) (h9 : ¬ kf = 9) (hno : faceOk us kt pt nt = true) :
    Calls Try.prog 34 #[v, vv, .agg #[.int .i64 kf, .string pf, .string nf, .slice a1 an1 ac1, .slice a2 an2 ac2], .agg #[.int .i64 kt, .string pt, .string nt, .slice b1 bn1 bc1, .slice b2 bn2 bc2]] w fun e w' => e = .returned (.bool (fitsB us vars kf pf nf kt pt nt (sameT tf tt))) ∧ Below w.heap.size w w' := by
  have HCO := Lib.hid (show condB us vars kf pf nf = false by unfold condB; simp [h5, h8, h9])
  have HFG := Lib.hid (show faceOk us kf pf nf = false by unfold faceOk; simp [h8])
  have HS := Lib.hid (fun W (hb : Below w0.heap.size w0 W) => Same_any D D W _ _ tf tt (Lies.below hb _ _ _ htf) (Lies.below hb _ _ _ htt))
  have HT := Lib.hid (fun W (hb : Below w0.heap.size w0 W) => found63_any d w0 W v us kt pt nt b1 b2 bn1 bc1 bn2 bc2 h hb)
  have HFF := Lib.hid (fun W (hb : Below w0.heap.size w0 W) => found63_any d w0 W v us kf pf nf a1 a2 an1 ac1 an2 ac2 h hb)
  have HKN := Lib.hid (fun W (hb : Below w0.heap.size w0 W) => known60_any d w0 W vv vars nf hv hb)
  have HHA := Lib.hid (fun W (hb : Below w0.heap.size w0 W) => has64_any d w0 W v vv us vars kf kt pf nf pt nt a1 a2 b1 b2 an1 ac1 an2 ac2 bn1 bc1 bn2 bc2 h hv hb (fun p n => by have := hbd 8 p n; unfold baseL at this; rw [if_neg (by decide), if_pos rfl] at this; exact this) (fun p n => by have := hbd 5 p n; unfold baseL at this; rw [if_pos rfl] at this; exact this))
  have HE := Lib.hid (fits_eq us vars kf pf nf kt pt nt (sameT tf tt))
  generalize fitsB us vars kf pf nf kt pt nt (sameT tf tt) = r at HE ⊢
  have hs' := hs
  obtain ⟨s, hs''⟩ : ∃ s, sameT tf tt = s := ⟨_, rfl⟩
  rw [hs''] at HE HS hs
  clear hs' hs''
  obtain rfl := hs.symm
  have HMT := Lib.hid (fun h => hasAll_face us vars kt pt nt (methL us vars kf pf nf) h)
  obtain ⟨fo, hfo⟩ : ∃ fo, faceOk us kt pt nt = fo := ⟨_, rfl⟩
  rw [hfo] at HE HMT hno
  obtain rfl := hno.symm
  have HFO := Lib.hid hfo
  generalize (faceD us kt pt nt).fields = L at HE HMT
  generalize methL us vars kf pf nf = LF at HHA HE HMT
  generalize methL us vars kt pt nt = LT at HHA HMT
  have HV := Lib.hid hv
  obtain ⟨av, cv, rfl, _⟩ := h.form
  obtain ⟨bv, ev, rfl, hcc, hcm, hfv⟩ := hv.form
  have hll := Nat.le_trans hcc hcm
  unfold maxLen at hll
  have HB2 := Lib.hid (alloc2_below w (.cells #[.int .i64 kf, .string pf, .string nf, .slice a1 an1 ac1, .slice a2 an2 ac2] 31) (.cells #[.int .i64 kt, .string pt, .string nt, .slice b1 bn1 bc1, .slice b2 bn2 bc2] 31))
  have HB02 := Lib.hid (hb0.trans (HB2.out.mono hb0.size))
  have HBX := Lib.hid (fun (W : World) (hb : Below ((w.alloc (.cells #[.int .i64 kf, .string pf, .string nf, .slice a1 an1 ac1, .slice a2 an2 ac2] 31)).alloc (.cells #[.int .i64 kt, .string pt, .string nt, .slice b1 bn1 bc1, .slice b2 bn2 bc2] 31)).heap.size ((w.alloc (.cells #[.int .i64 kf, .string pf, .string nf, .slice a1 an1 ac1, .slice a2 an2 ac2] 31)).alloc (.cells #[.int .i64 kt, .string pt, .string nt, .slice b1 bn1 bc1, .slice b2 bn2 bc2] 31)) W) => (show (W.cell? ⟨w.heap.size, 0, none⟩ = some (.int .i64 kf) ∧ W.cell? ⟨w.heap.size, 1, none⟩ = some (.string pf) ∧ W.cell? ⟨w.heap.size, 2, none⟩ = some (.string nf) ∧ W.cell? ⟨w.heap.size, 3, none⟩ = some (.slice a1 an1 ac1) ∧ W.cell? ⟨w.heap.size, 4, none⟩ = some (.slice a2 an2 ac2)) ∧ (W.cell? ⟨w.heap.size + 1, 0, none⟩ = some (.int .i64 kt) ∧ W.cell? ⟨w.heap.size + 1, 1, none⟩ = some (.string pt) ∧ W.cell? ⟨w.heap.size + 1, 2, none⟩ = some (.string nt) ∧ W.cell? ⟨w.heap.size + 1, 3, none⟩ = some (.slice b1 bn1 bc1) ∧ W.cell? ⟨w.heap.size + 1, 4, none⟩ = some (.slice b2 bn2 bc2)) ∧ Below w.heap.size w W ∧ Below w0.heap.size w0 W from by
    obtain ⟨hj, hk, hbw⟩ := alloc_known2 hb
    exact ⟨⟨(cell_of_row _ _ 0 _ _ _ hj).trans rfl, (cell_of_row _ _ 1 _ _ _ hj).trans rfl, (cell_of_row _ _ 2 _ _ _ hj).trans rfl, (cell_of_row _ _ 3 _ _ _ hj).trans rfl, (cell_of_row _ _ 4 _ _ _ hj).trans rfl⟩, ⟨(cell_of_row _ _ 0 _ _ _ hk).trans rfl, (cell_of_row _ _ 1 _ _ _ hk).trans rfl, (cell_of_row _ _ 2 _ _ _ hk).trans rfl, (cell_of_row _ _ 3 _ _ _ hk).trans rfl, (cell_of_row _ _ 4 _ _ _ hk).trans rfl⟩, hbw, HB02.out.trans (hb.mono HB02.out.size)⟩))
  clear h hv htf htt hb0 hbd hfo
  rw [if_neg h4] at HE
  have e0 : (kf == 0) = false := by simpa using h0
  have e1 : (kt == 0) = false := by simpa using ht0
  have e4 : (kf == 4) = false := by simpa using h4
  have e5 : (kf != 5) = true := by simpa using h5
  have e9 : (kf != 9) = true := by simpa using h9
  clear h0 ht0 h4 h5 h8 h9
  go_enter Try.func34, Try.ntmps34
  go_wp2_with (first | (go_at_call 19; refine (HS.out _ HB02.out).mono ?_; rintro e w3 ⟨rfl, hb3⟩; refine Hid.out ?_))
  refine Lib.hid ?_
  obtain ⟨⟨p0, p1, p2, p3, p4⟩, ⟨q0, q1, q2, q3, q4⟩, hbw3, hbz3⟩ := HBX.out w3 hb3
  have HN3 := Lib.hid hb3
  have HB3 := Lib.hid hbw3
  have HB03 := Lib.hid hbz3
  clear hb3 hbw3 hbz3
  go_wp2_with (first | (go_at_call 63; refine (HT.out w3 HB03.out).mono ?_; rintro e w5 ⟨rfl, hb5⟩; refine Hid.out ?_))
  refine Lib.hid ?_
  rw [HFO.out]
  have HN5 := Lib.hid (HN3.out.trans (hb5.mono HN3.out.size))
  clear p0 p1 p2 p3 p4 q0 q1 q2 q3 q4
  obtain ⟨⟨p0, p1, p2, p3, p4⟩, ⟨q0, q1, q2, q3, q4⟩, hbw5, hbz5⟩ := HBX.out w5 HN5.out
  have HB5 := Lib.hid hbw5
  have HB05 := Lib.hid hbz5
  clear hb5 hbw5 hbz5
  go_wp2_with (first | (go_at_call 63; refine (HFF.out w5 HB05.out).mono ?_; rintro e w6 ⟨rfl, hb6⟩; refine Hid.out ?_))
  refine Lib.hid ?_
  rw [HFG.out]
  clear p0 p1 p2 p3 p4 q0 q1 q2 q3 q4
  have HN6 := Lib.hid (HN5.out.trans (hb6.mono HN5.out.size))
  obtain ⟨⟨p0, p1, p2, p3, p4⟩, ⟨q0, q1, q2, q3, q4⟩, hbw6, hbz6⟩ := HBX.out w6 HN6.out
  have HB6 := Lib.hid hbw6
  have HB06 := Lib.hid hbz6
  clear hb6 hbw6 hbz6
  go_wp2_with fail
  go_ret
  obtain rfl : r = false := by rw [HE.out, HCO.out]; simp
  exact ⟨rfl, HB6.out⟩
theorem fits34_ptr (d D : Nat) (w0 w : World) (v vv : Value) (us : List Unt) (vars : List Fld) (kt : Int) (pf nf pt nt : ByteArray) (a1 a2 b1 b2 : Option Addr) (an1 ac1 an2 ac2 bn1 bc1 bn2 bc2 : Nat) (tf tt : Ty) (h : RowG 4 (LiesU w0 d) w0 v us) (hv : RowG 6 (LiesF w0 d) w0 vv vars) (htf : Lies w0 D (.agg #[.int .i64 5, .string pf, .string nf, .slice a1 an1 ac1, .slice a2 an2 ac2]) tf) (htt : Lies w0 D (.agg #[.int .i64 kt, .string pt, .string nt, .slice b1 bn1 bc1, .slice b2 bn2 bc2]) tt) (hb0 : Below w0.heap.size w0 w) (hbd : ∀ k p n, (baseL us k p n).length ≤ 1000000) (ht0 : ¬ kt = 0) (hs : sameT tf tt = false) (hno : faceOk us kt pt nt = true) :
    Calls Try.prog 34 #[v, vv, .agg #[.int .i64 5, .string pf, .string nf, .slice a1 an1 ac1, .slice a2 an2 ac2], .agg #[.int .i64 kt, .string pt, .string nt, .slice b1 bn1 bc1, .slice b2 bn2 bc2]] w fun e w' => e = .returned (.bool (fitsB us vars 5 pf nf kt pt nt (sameT tf tt))) ∧ Below w.heap.size w w' := by
  have HCO := Lib.hid (show condB us vars 5 pf nf = true from by unfold condB; simp)
  have HS := Lib.hid (fun W (hb : Below w0.heap.size w0 W) => Same_any D D W _ _ tf tt (Lies.below hb _ _ _ htf) (Lies.below hb _ _ _ htt))
  have HT := Lib.hid (fun W (hb : Below w0.heap.size w0 W) => found63_any d w0 W v us kt pt nt b1 b2 bn1 bc1 bn2 bc2 h hb)
  have HFF := Lib.hid (fun W (hb : Below w0.heap.size w0 W) => found63_any d w0 W v us 5 pf nf a1 a2 an1 ac1 an2 ac2 h hb)
  have HKN := Lib.hid (fun W (hb : Below w0.heap.size w0 W) => known60_any d w0 W vv vars nf hv hb)
  have HHA := Lib.hid (fun W (hb : Below w0.heap.size w0 W) => has64_any d w0 W v vv us vars 5 kt pf nf pt nt a1 a2 b1 b2 an1 ac1 an2 ac2 bn1 bc1 bn2 bc2 h hv hb (fun p n => by have := hbd 8 p n; unfold baseL at this; rw [if_neg (by decide), if_pos rfl] at this; exact this) (fun p n => by have := hbd 5 p n; unfold baseL at this; rw [if_pos rfl] at this; exact this))
  have HE := Lib.hid (fits_eq us vars 5 pf nf kt pt nt (sameT tf tt))
  generalize fitsB us vars 5 pf nf kt pt nt (sameT tf tt) = r at HE ⊢
  have hs' := hs
  obtain ⟨s, hs''⟩ : ∃ s, sameT tf tt = s := ⟨_, rfl⟩
  rw [hs''] at HE HS hs
  clear hs' hs''
  obtain rfl := hs.symm
  have HMT := Lib.hid (fun h => hasAll_face us vars kt pt nt (methL us vars 5 pf nf) h)
  obtain ⟨fo, hfo⟩ : ∃ fo, faceOk us kt pt nt = fo := ⟨_, rfl⟩
  rw [hfo] at HE HMT hno
  obtain rfl := hno.symm
  have HFO := Lib.hid hfo
  generalize (faceD us kt pt nt).fields = L at HE HMT
  generalize methL us vars 5 pf nf = LF at HHA HE HMT
  generalize methL us vars kt pt nt = LT at HHA HMT
  have HV := Lib.hid hv
  obtain ⟨av, cv, rfl, _⟩ := h.form
  obtain ⟨bv, ev, rfl, hcc, hcm, hfv⟩ := hv.form
  have hll := Nat.le_trans hcc hcm
  unfold maxLen at hll
  have HB2 := Lib.hid (alloc2_below w (.cells #[.int .i64 5, .string pf, .string nf, .slice a1 an1 ac1, .slice a2 an2 ac2] 31) (.cells #[.int .i64 kt, .string pt, .string nt, .slice b1 bn1 bc1, .slice b2 bn2 bc2] 31))
  have HB02 := Lib.hid (hb0.trans (HB2.out.mono hb0.size))
  have HBX := Lib.hid (fun (W : World) (hb : Below ((w.alloc (.cells #[.int .i64 5, .string pf, .string nf, .slice a1 an1 ac1, .slice a2 an2 ac2] 31)).alloc (.cells #[.int .i64 kt, .string pt, .string nt, .slice b1 bn1 bc1, .slice b2 bn2 bc2] 31)).heap.size ((w.alloc (.cells #[.int .i64 5, .string pf, .string nf, .slice a1 an1 ac1, .slice a2 an2 ac2] 31)).alloc (.cells #[.int .i64 kt, .string pt, .string nt, .slice b1 bn1 bc1, .slice b2 bn2 bc2] 31)) W) => (show (W.cell? ⟨w.heap.size, 0, none⟩ = some (.int .i64 5) ∧ W.cell? ⟨w.heap.size, 1, none⟩ = some (.string pf) ∧ W.cell? ⟨w.heap.size, 2, none⟩ = some (.string nf) ∧ W.cell? ⟨w.heap.size, 3, none⟩ = some (.slice a1 an1 ac1) ∧ W.cell? ⟨w.heap.size, 4, none⟩ = some (.slice a2 an2 ac2)) ∧ (W.cell? ⟨w.heap.size + 1, 0, none⟩ = some (.int .i64 kt) ∧ W.cell? ⟨w.heap.size + 1, 1, none⟩ = some (.string pt) ∧ W.cell? ⟨w.heap.size + 1, 2, none⟩ = some (.string nt) ∧ W.cell? ⟨w.heap.size + 1, 3, none⟩ = some (.slice b1 bn1 bc1) ∧ W.cell? ⟨w.heap.size + 1, 4, none⟩ = some (.slice b2 bn2 bc2)) ∧ Below w.heap.size w W ∧ Below w0.heap.size w0 W from by
    obtain ⟨hj, hk, hbw⟩ := alloc_known2 hb
    exact ⟨⟨(cell_of_row _ _ 0 _ _ _ hj).trans rfl, (cell_of_row _ _ 1 _ _ _ hj).trans rfl, (cell_of_row _ _ 2 _ _ _ hj).trans rfl, (cell_of_row _ _ 3 _ _ _ hj).trans rfl, (cell_of_row _ _ 4 _ _ _ hj).trans rfl⟩, ⟨(cell_of_row _ _ 0 _ _ _ hk).trans rfl, (cell_of_row _ _ 1 _ _ _ hk).trans rfl, (cell_of_row _ _ 2 _ _ _ hk).trans rfl, (cell_of_row _ _ 3 _ _ _ hk).trans rfl, (cell_of_row _ _ 4 _ _ _ hk).trans rfl⟩, hbw, HB02.out.trans (hb.mono HB02.out.size)⟩))
  clear h hv htf htt hb0 hbd hfo
  have HMV := Lib.hid (HMT.out rfl)
  clear HMT hs hno
  have e1 : (kt == 0) = false := by simpa using ht0
  clear ht0
  go_enter Try.func34, Try.ntmps34
  go_wp2_with (first | (go_at_call 19; refine (HS.out _ HB02.out).mono ?_; rintro e w3 ⟨rfl, hb3⟩; refine Hid.out ?_))
  refine Lib.hid ?_
  obtain ⟨⟨p0, p1, p2, p3, p4⟩, ⟨q0, q1, q2, q3, q4⟩, hbw3, hbz3⟩ := HBX.out w3 hb3
  have HN3 := Lib.hid hb3
  have HB3 := Lib.hid hbw3
  have HB03 := Lib.hid hbz3
  clear hb3 hbw3 hbz3
  go_wp2_with (first | (go_at_call 63; refine (HT.out w3 HB03.out).mono ?_; rintro e w5 ⟨rfl, hb5⟩; refine Hid.out ?_))
  refine Lib.hid ?_
  rw [HFO.out]
  have HN5 := Lib.hid (HN3.out.trans (hb5.mono HN3.out.size))
  clear p0 p1 p2 p3 p4 q0 q1 q2 q3 q4
  obtain ⟨⟨p0, p1, p2, p3, p4⟩, ⟨q0, q1, q2, q3, q4⟩, hbw5, hbz5⟩ := HBX.out w5 HN5.out
  have HB5 := Lib.hid hbw5
  have HB05 := Lib.hid hbz5
  clear hb5 hbw5 hbz5
  go_wp2_with (first | (go_at_call 60; refine (HKN.out w5 HB05.out).mono ?_; rintro e wk ⟨⟨iu, rfl, hiu⟩, hwk⟩; obtain rfl := hwk.symm; clear hiu) | (go_at_call 64; refine (HHA.out w5 HB05.out).mono ?_; rintro e w9 ⟨rfl, hb9⟩; have HB9 := Lib.hid (HB5.out.trans (hb9.mono HB5.out.size)); clear hb9))
  go_ret
  obtain rfl : r = hasAll LF LT := by rw [HE.out, HMV.out, e1, HCO.out]; rfl
  exact ⟨rfl, HB9.out⟩
theorem fits34_face (d D : Nat) (w0 w : World) (v vv : Value) (us : List Unt) (vars : List Fld) (kt : Int) (pf nf pt nt : ByteArray) (a1 a2 b1 b2 : Option Addr) (an1 ac1 an2 ac2 bn1 bc1 bn2 bc2 : Nat) (tf tt : Ty) (h : RowG 4 (LiesU w0 d) w0 v us) (hv : RowG 6 (LiesF w0 d) w0 vv vars) (htf : Lies w0 D (.agg #[.int .i64 8, .string pf, .string nf, .slice a1 an1 ac1, .slice a2 an2 ac2]) tf) (htt : Lies w0 D (.agg #[.int .i64 kt, .string pt, .string nt, .slice b1 bn1 bc1, .slice b2 bn2 bc2]) tt) (hb0 : Below w0.heap.size w0 w) (hbd : ∀ k p n, (baseL us k p n).length ≤ 1000000) (ht0 : ¬ kt = 0) (hs : sameT tf tt = false) (hno : faceOk us kt pt nt = true) :
    Calls Try.prog 34 #[v, vv, .agg #[.int .i64 8, .string pf, .string nf, .slice a1 an1 ac1, .slice a2 an2 ac2], .agg #[.int .i64 kt, .string pt, .string nt, .slice b1 bn1 bc1, .slice b2 bn2 bc2]] w fun e w' => e = .returned (.bool (fitsB us vars 8 pf nf kt pt nt (sameT tf tt))) ∧ Below w.heap.size w w' := by
  have HCO := Lib.hid (show condB us vars 8 pf nf = faceOk us 8 pf nf from by unfold condB; simp)
  obtain ⟨fg, hfg⟩ : ∃ fg, faceOk us 8 pf nf = fg := ⟨_, rfl⟩
  rw [hfg] at HCO
  have HFG := Lib.hid hfg
  clear hfg
  have HS := Lib.hid (fun W (hb : Below w0.heap.size w0 W) => Same_any D D W _ _ tf tt (Lies.below hb _ _ _ htf) (Lies.below hb _ _ _ htt))
  have HT := Lib.hid (fun W (hb : Below w0.heap.size w0 W) => found63_any d w0 W v us kt pt nt b1 b2 bn1 bc1 bn2 bc2 h hb)
  have HFF := Lib.hid (fun W (hb : Below w0.heap.size w0 W) => found63_any d w0 W v us 8 pf nf a1 a2 an1 ac1 an2 ac2 h hb)
  have HKN := Lib.hid (fun W (hb : Below w0.heap.size w0 W) => known60_any d w0 W vv vars nf hv hb)
  have HHA := Lib.hid (fun W (hb : Below w0.heap.size w0 W) => has64_any d w0 W v vv us vars 8 kt pf nf pt nt a1 a2 b1 b2 an1 ac1 an2 ac2 bn1 bc1 bn2 bc2 h hv hb (fun p n => by have := hbd 8 p n; unfold baseL at this; rw [if_neg (by decide), if_pos rfl] at this; exact this) (fun p n => by have := hbd 5 p n; unfold baseL at this; rw [if_pos rfl] at this; exact this))
  have HE := Lib.hid (fits_eq us vars 8 pf nf kt pt nt (sameT tf tt))
  generalize fitsB us vars 8 pf nf kt pt nt (sameT tf tt) = r at HE ⊢
  have hs' := hs
  obtain ⟨s, hs''⟩ : ∃ s, sameT tf tt = s := ⟨_, rfl⟩
  rw [hs''] at HE HS hs
  clear hs' hs''
  obtain rfl := hs.symm
  have HMT := Lib.hid (fun h => hasAll_face us vars kt pt nt (methL us vars 8 pf nf) h)
  obtain ⟨fo, hfo⟩ : ∃ fo, faceOk us kt pt nt = fo := ⟨_, rfl⟩
  rw [hfo] at HE HMT hno
  obtain rfl := hno.symm
  have HFO := Lib.hid hfo
  generalize (faceD us kt pt nt).fields = L at HE HMT
  generalize methL us vars 8 pf nf = LF at HHA HE HMT
  generalize methL us vars kt pt nt = LT at HHA HMT
  have HV := Lib.hid hv
  obtain ⟨av, cv, rfl, _⟩ := h.form
  obtain ⟨bv, ev, rfl, hcc, hcm, hfv⟩ := hv.form
  have hll := Nat.le_trans hcc hcm
  unfold maxLen at hll
  have HB2 := Lib.hid (alloc2_below w (.cells #[.int .i64 8, .string pf, .string nf, .slice a1 an1 ac1, .slice a2 an2 ac2] 31) (.cells #[.int .i64 kt, .string pt, .string nt, .slice b1 bn1 bc1, .slice b2 bn2 bc2] 31))
  have HB02 := Lib.hid (hb0.trans (HB2.out.mono hb0.size))
  have HBX := Lib.hid (fun (W : World) (hb : Below ((w.alloc (.cells #[.int .i64 8, .string pf, .string nf, .slice a1 an1 ac1, .slice a2 an2 ac2] 31)).alloc (.cells #[.int .i64 kt, .string pt, .string nt, .slice b1 bn1 bc1, .slice b2 bn2 bc2] 31)).heap.size ((w.alloc (.cells #[.int .i64 8, .string pf, .string nf, .slice a1 an1 ac1, .slice a2 an2 ac2] 31)).alloc (.cells #[.int .i64 kt, .string pt, .string nt, .slice b1 bn1 bc1, .slice b2 bn2 bc2] 31)) W) => (show (W.cell? ⟨w.heap.size, 0, none⟩ = some (.int .i64 8) ∧ W.cell? ⟨w.heap.size, 1, none⟩ = some (.string pf) ∧ W.cell? ⟨w.heap.size, 2, none⟩ = some (.string nf) ∧ W.cell? ⟨w.heap.size, 3, none⟩ = some (.slice a1 an1 ac1) ∧ W.cell? ⟨w.heap.size, 4, none⟩ = some (.slice a2 an2 ac2)) ∧ (W.cell? ⟨w.heap.size + 1, 0, none⟩ = some (.int .i64 kt) ∧ W.cell? ⟨w.heap.size + 1, 1, none⟩ = some (.string pt) ∧ W.cell? ⟨w.heap.size + 1, 2, none⟩ = some (.string nt) ∧ W.cell? ⟨w.heap.size + 1, 3, none⟩ = some (.slice b1 bn1 bc1) ∧ W.cell? ⟨w.heap.size + 1, 4, none⟩ = some (.slice b2 bn2 bc2)) ∧ Below w.heap.size w W ∧ Below w0.heap.size w0 W from by
    obtain ⟨hj, hk, hbw⟩ := alloc_known2 hb
    exact ⟨⟨(cell_of_row _ _ 0 _ _ _ hj).trans rfl, (cell_of_row _ _ 1 _ _ _ hj).trans rfl, (cell_of_row _ _ 2 _ _ _ hj).trans rfl, (cell_of_row _ _ 3 _ _ _ hj).trans rfl, (cell_of_row _ _ 4 _ _ _ hj).trans rfl⟩, ⟨(cell_of_row _ _ 0 _ _ _ hk).trans rfl, (cell_of_row _ _ 1 _ _ _ hk).trans rfl, (cell_of_row _ _ 2 _ _ _ hk).trans rfl, (cell_of_row _ _ 3 _ _ _ hk).trans rfl, (cell_of_row _ _ 4 _ _ _ hk).trans rfl⟩, hbw, HB02.out.trans (hb.mono HB02.out.size)⟩))
  clear h hv htf htt hb0 hbd hfo
  have HMV := Lib.hid (HMT.out rfl)
  clear HMT hs hno
  have e1 : (kt == 0) = false := by simpa using ht0
  clear ht0
  go_enter Try.func34, Try.ntmps34
  go_wp2_with (first | (go_at_call 19; refine (HS.out _ HB02.out).mono ?_; rintro e w3 ⟨rfl, hb3⟩; refine Hid.out ?_))
  refine Lib.hid ?_
  obtain ⟨⟨p0, p1, p2, p3, p4⟩, ⟨q0, q1, q2, q3, q4⟩, hbw3, hbz3⟩ := HBX.out w3 hb3
  have HN3 := Lib.hid hb3
  have HB3 := Lib.hid hbw3
  have HB03 := Lib.hid hbz3
  clear hb3 hbw3 hbz3
  go_wp2_with (first | (go_at_call 63; refine (HT.out w3 HB03.out).mono ?_; rintro e w5 ⟨rfl, hb5⟩; refine Hid.out ?_))
  refine Lib.hid ?_
  rw [HFO.out]
  have HN5 := Lib.hid (HN3.out.trans (hb5.mono HN3.out.size))
  clear p0 p1 p2 p3 p4 q0 q1 q2 q3 q4
  obtain ⟨⟨p0, p1, p2, p3, p4⟩, ⟨q0, q1, q2, q3, q4⟩, hbw5, hbz5⟩ := HBX.out w5 HN5.out
  have HB5 := Lib.hid hbw5
  have HB05 := Lib.hid hbz5
  clear hb5 hbw5 hbz5
  go_wp2_with (first | (go_at_call 63; refine (HFF.out w5 HB05.out).mono ?_; rintro e w6 ⟨rfl, hb6⟩; refine Hid.out ?_))
  refine Lib.hid ?_
  rw [HFG.out]
  clear p0 p1 p2 p3 p4 q0 q1 q2 q3 q4
  have HN6 := Lib.hid (HN5.out.trans (hb6.mono HN5.out.size))
  obtain ⟨⟨p0, p1, p2, p3, p4⟩, ⟨q0, q1, q2, q3, q4⟩, hbw6, hbz6⟩ := HBX.out w6 HN6.out
  have HB6 := Lib.hid hbw6
  have HB06 := Lib.hid hbz6
  clear hb6 hbw6 hbz6
  cases fg with
  | false =>
    go_wp2_with fail
    go_ret
    obtain rfl : r = false := by rw [HE.out, HCO.out]; simp
    exact ⟨rfl, HB6.out⟩
  | true =>
    go_wp2_with (first | (go_at_call 60; refine (HKN.out w6 HB06.out).mono ?_; rintro e wk ⟨⟨iu, rfl, hiu⟩, hwk⟩; obtain rfl := hwk.symm; clear hiu) | (go_at_call 64; refine (HHA.out w6 HB06.out).mono ?_; rintro e w9 ⟨rfl, hb9⟩; have HB9 := Lib.hid (HB6.out.trans (hb9.mono HB6.out.size)); clear hb9))
    go_ret
    obtain rfl : r = hasAll LF LT := by rw [HE.out, HMV.out, e1, HCO.out]; rfl
    exact ⟨rfl, HB9.out⟩
theorem fits34_var (d D : Nat) (w0 w : World) (v vv : Value) (us : List Unt) (vars : List Fld) (kt : Int) (pf nf pt nt : ByteArray) (a1 a2 b1 b2 : Option Addr) (an1 ac1 an2 ac2 bn1 bc1 bn2 bc2 : Nat) (tf tt : Ty) (h : RowG 4 (LiesU w0 d) w0 v us) (hv : RowG 6 (LiesF w0 d) w0 vv vars) (htf : Lies w0 D (.agg #[.int .i64 9, .string pf, .string nf, .slice a1 an1 ac1, .slice a2 an2 ac2]) tf) (htt : Lies w0 D (.agg #[.int .i64 kt, .string pt, .string nt, .slice b1 bn1 bc1, .slice b2 bn2 bc2]) tt) (hb0 : Below w0.heap.size w0 w) (hbd : ∀ k p n, (baseL us k p n).length ≤ 1000000) (ht0 : ¬ kt = 0) (hs : sameT tf tt = false) (hno : faceOk us kt pt nt = true) :
    Calls Try.prog 34 #[v, vv, .agg #[.int .i64 9, .string pf, .string nf, .slice a1 an1 ac1, .slice a2 an2 ac2], .agg #[.int .i64 kt, .string pt, .string nt, .slice b1 bn1 bc1, .slice b2 bn2 bc2]] w fun e w' => e = .returned (.bool (fitsB us vars 9 pf nf kt pt nt (sameT tf tt))) ∧ Below w.heap.size w w' := by
  have HCO := Lib.hid (show condB us vars 9 pf nf = (Ty.kd (tyO (findF vars nf)) == 8) from by unfold condB; simp)
  have HS := Lib.hid (fun W (hb : Below w0.heap.size w0 W) => Same_any D D W _ _ tf tt (Lies.below hb _ _ _ htf) (Lies.below hb _ _ _ htt))
  have HT := Lib.hid (fun W (hb : Below w0.heap.size w0 W) => found63_any d w0 W v us kt pt nt b1 b2 bn1 bc1 bn2 bc2 h hb)
  have HFF := Lib.hid (fun W (hb : Below w0.heap.size w0 W) => found63_any d w0 W v us 9 pf nf a1 a2 an1 ac1 an2 ac2 h hb)
  have HKN := Lib.hid (fun W (hb : Below w0.heap.size w0 W) => known60_any d w0 W vv vars nf hv hb)
  have HHA := Lib.hid (fun W (hb : Below w0.heap.size w0 W) => has64_any d w0 W v vv us vars 9 kt pf nf pt nt a1 a2 b1 b2 an1 ac1 an2 ac2 bn1 bc1 bn2 bc2 h hv hb (fun p n => by have := hbd 8 p n; unfold baseL at this; rw [if_neg (by decide), if_pos rfl] at this; exact this) (fun p n => by have := hbd 5 p n; unfold baseL at this; rw [if_pos rfl] at this; exact this))
  have HE := Lib.hid (fits_eq us vars 9 pf nf kt pt nt (sameT tf tt))
  generalize fitsB us vars 9 pf nf kt pt nt (sameT tf tt) = r at HE ⊢
  have hs' := hs
  obtain ⟨s, hs''⟩ : ∃ s, sameT tf tt = s := ⟨_, rfl⟩
  rw [hs''] at HE HS hs
  clear hs' hs''
  obtain rfl := hs.symm
  have HMT := Lib.hid (fun h => hasAll_face us vars kt pt nt (methL us vars 9 pf nf) h)
  obtain ⟨fo, hfo⟩ : ∃ fo, faceOk us kt pt nt = fo := ⟨_, rfl⟩
  rw [hfo] at HE HMT hno
  obtain rfl := hno.symm
  have HFO := Lib.hid hfo
  generalize (faceD us kt pt nt).fields = L at HE HMT
  generalize methL us vars 9 pf nf = LF at HHA HE HMT
  generalize methL us vars kt pt nt = LT at HHA HMT
  have HV := Lib.hid hv
  obtain ⟨av, cv, rfl, _⟩ := h.form
  obtain ⟨bv, ev, rfl, hcc, hcm, hfv⟩ := hv.form
  have hll := Nat.le_trans hcc hcm
  unfold maxLen at hll
  have HB2 := Lib.hid (alloc2_below w (.cells #[.int .i64 9, .string pf, .string nf, .slice a1 an1 ac1, .slice a2 an2 ac2] 31) (.cells #[.int .i64 kt, .string pt, .string nt, .slice b1 bn1 bc1, .slice b2 bn2 bc2] 31))
  have HB02 := Lib.hid (hb0.trans (HB2.out.mono hb0.size))
  have HBX := Lib.hid (fun (W : World) (hb : Below ((w.alloc (.cells #[.int .i64 9, .string pf, .string nf, .slice a1 an1 ac1, .slice a2 an2 ac2] 31)).alloc (.cells #[.int .i64 kt, .string pt, .string nt, .slice b1 bn1 bc1, .slice b2 bn2 bc2] 31)).heap.size ((w.alloc (.cells #[.int .i64 9, .string pf, .string nf, .slice a1 an1 ac1, .slice a2 an2 ac2] 31)).alloc (.cells #[.int .i64 kt, .string pt, .string nt, .slice b1 bn1 bc1, .slice b2 bn2 bc2] 31)) W) => (show (W.cell? ⟨w.heap.size, 0, none⟩ = some (.int .i64 9) ∧ W.cell? ⟨w.heap.size, 1, none⟩ = some (.string pf) ∧ W.cell? ⟨w.heap.size, 2, none⟩ = some (.string nf) ∧ W.cell? ⟨w.heap.size, 3, none⟩ = some (.slice a1 an1 ac1) ∧ W.cell? ⟨w.heap.size, 4, none⟩ = some (.slice a2 an2 ac2)) ∧ (W.cell? ⟨w.heap.size + 1, 0, none⟩ = some (.int .i64 kt) ∧ W.cell? ⟨w.heap.size + 1, 1, none⟩ = some (.string pt) ∧ W.cell? ⟨w.heap.size + 1, 2, none⟩ = some (.string nt) ∧ W.cell? ⟨w.heap.size + 1, 3, none⟩ = some (.slice b1 bn1 bc1) ∧ W.cell? ⟨w.heap.size + 1, 4, none⟩ = some (.slice b2 bn2 bc2)) ∧ Below w.heap.size w W ∧ Below w0.heap.size w0 W from by
    obtain ⟨hj, hk, hbw⟩ := alloc_known2 hb
    exact ⟨⟨(cell_of_row _ _ 0 _ _ _ hj).trans rfl, (cell_of_row _ _ 1 _ _ _ hj).trans rfl, (cell_of_row _ _ 2 _ _ _ hj).trans rfl, (cell_of_row _ _ 3 _ _ _ hj).trans rfl, (cell_of_row _ _ 4 _ _ _ hj).trans rfl⟩, ⟨(cell_of_row _ _ 0 _ _ _ hk).trans rfl, (cell_of_row _ _ 1 _ _ _ hk).trans rfl, (cell_of_row _ _ 2 _ _ _ hk).trans rfl, (cell_of_row _ _ 3 _ _ _ hk).trans rfl, (cell_of_row _ _ 4 _ _ _ hk).trans rfl⟩, hbw, HB02.out.trans (hb.mono HB02.out.size)⟩))
  clear h hv htf htt hb0 hbd hfo
  have HMV := Lib.hid (HMT.out rfl)
  clear HMT hs hno
  have e1 : (kt == 0) = false := by simpa using ht0
  clear ht0
  go_enter Try.func34, Try.ntmps34
  go_wp2_with (first | (go_at_call 19; refine (HS.out _ HB02.out).mono ?_; rintro e w3 ⟨rfl, hb3⟩; refine Hid.out ?_))
  refine Lib.hid ?_
  obtain ⟨⟨p0, p1, p2, p3, p4⟩, ⟨q0, q1, q2, q3, q4⟩, hbw3, hbz3⟩ := HBX.out w3 hb3
  have HN3 := Lib.hid hb3
  have HB3 := Lib.hid hbw3
  have HB03 := Lib.hid hbz3
  clear hb3 hbw3 hbz3
  go_wp2_with (first | (go_at_call 63; refine (HT.out w3 HB03.out).mono ?_; rintro e w5 ⟨rfl, hb5⟩; refine Hid.out ?_))
  refine Lib.hid ?_
  rw [HFO.out]
  have HN5 := Lib.hid (HN3.out.trans (hb5.mono HN3.out.size))
  clear p0 p1 p2 p3 p4 q0 q1 q2 q3 q4
  obtain ⟨⟨p0, p1, p2, p3, p4⟩, ⟨q0, q1, q2, q3, q4⟩, hbw5, hbz5⟩ := HBX.out w5 HN5.out
  have HB5 := Lib.hid hbw5
  have HB05 := Lib.hid hbz5
  clear hb5 hbw5 hbz5
  go_wp2_with (first | (go_at_call 60; refine (HKN.out w5 HB05.out).mono ?_; rintro e wk ⟨⟨iu, rfl, hiu⟩, hwk⟩; obtain rfl := hwk.symm; have HIU := Lib.hid hiu; clear hiu; refine Hid.out ?_))
  refine Lib.hid ?_
  have hiu := HIU.out
  unfold KnownIs at hiu
  cases hun : findF vars nf with
  | none =>
    rw [hun] at hiu
    obtain rfl : iu = -1 := hiu
    have HF := Lib.hid (show condB us vars 9 pf nf = false by rw [HCO.out, hun]; rfl)
    clear hun HIU
    go_wp2_with fail
    go_ret
    obtain rfl : r = false := by rw [HE.out, HF.out]; simp
    exact ⟨rfl, HB5.out⟩
  | some x =>
    rw [hun] at hiu
    obtain ⟨ku, rfl, hku⟩ := hiu
    have hkl : ku < vars.length := (List.getElem?_eq_some_iff.1 hku).1
    have ku0 : (0 : Int) ≤ (ku : Int) := by omega
    have ku1 : (ku : Int) < (vars.length : Int) := by omega
    obtain ⟨bu, ou, rfl⟩ := hfv (by omega)
    obtain ⟨cs, ⟨z0, z1, z2, z3, z4, rfl, hty⟩, hcs⟩ := HV.out.get ku x hku
    obtain ⟨xn, t⟩ := x
    dsimp only at hty hcs
    obtain ⟨x0, x1, x2, x3, x4, x5, x6, x7, x8, rfl, rfl, rfl, rfl, rfl⟩ := lies_form hty
    have HF := Lib.hid (show condB us vars 9 pf nf = (x0 == 8) by rw [HCO.out, hun]; show (Ty.kd t == 8) = _; rw [(lies_head hty).1])
    have g1 := cell_on HB05.out (hcs 1 _ rfl)
    clear hcs hty hku hun HIU
    by_cases h8 : x0 = 8
    · subst h8
      go_wp2_with (first | (go_at_call 64; refine (HHA.out w5 HB05.out).mono ?_; rintro e w9 ⟨rfl, hb9⟩; have HB9 := Lib.hid (HB5.out.trans (hb9.mono HB5.out.size)); clear hb9))
      go_ret
      obtain rfl : r = hasAll LF LT := by rw [HE.out, HMV.out, e1, HF.out]; rfl
      exact ⟨rfl, HB9.out⟩
    · have hne : (x0 != 8) = true := by simpa using h8
      have hne' : (x0 == 8) = false := by simpa using h8
      rw [hne'] at HF
      clear h8 hne'
      go_wp2_with fail
      go_ret
      obtain rfl : r = false := by rw [HE.out, HF.out]; simp
      exact ⟨rfl, HB5.out⟩
theorem fits34_any (d D : Nat) (w0 w : World) (v vv : Value) (us : List Unt) (vars : List Fld) (kf kt : Int) (pf nf pt nt : ByteArray) (a1 a2 b1 b2 : Option Addr) (an1 ac1 an2 ac2 bn1 bc1 bn2 bc2 : Nat) (tf tt : Ty) (h : RowG 4 (LiesU w0 d) w0 v us) (hv : RowG 6 (LiesF w0 d) w0 vv vars) (htf : Lies w0 D (.agg #[.int .i64 kf, .string pf, .string nf, .slice a1 an1 ac1, .slice a2 an2 ac2]) tf) (htt : Lies w0 D (.agg #[.int .i64 kt, .string pt, .string nt, .slice b1 bn1 bc1, .slice b2 bn2 bc2]) tt) (hb0 : Below w0.heap.size w0 w) (hbd : ∀ k p n, (baseL us k p n).length ≤ 1000000) :
    Calls Try.prog 34 #[v, vv, .agg #[.int .i64 kf, .string pf, .string nf, .slice a1 an1 ac1, .slice a2 an2 ac2], .agg #[.int .i64 kt, .string pt, .string nt, .slice b1 bn1 bc1, .slice b2 bn2 bc2]] w fun e w' => e = .returned (.bool (fitsB us vars kf pf nf kt pt nt (sameT tf tt))) ∧ Below w.heap.size w w' := by
  by_cases hz : kf = 0 ∨ kt = 0
  · exact fits34_low d D w0 w v vv us vars kf kt pf nf pt nt a1 a2 b1 b2 an1 ac1 an2 ac2 bn1 bc1 bn2 bc2 tf tt h hv htf htt hb0 hbd hz
  have h0 : ¬ kf = 0 := fun h => hz (.inl h)
  have ht0 : ¬ kt = 0 := fun h => hz (.inr h)
  by_cases hs1 : sameT tf tt = true
  · exact fits34_same d D w0 w v vv us vars kf kt pf nf pt nt a1 a2 b1 b2 an1 ac1 an2 ac2 bn1 bc1 bn2 bc2 tf tt h hv htf htt hb0 hbd h0 ht0 hs1
  · have hs : sameT tf tt = false := by simpa using hs1
    by_cases h4 : kf = 4
    · subst h4; exact fits34_nil d D w0 w v vv us vars kt pf nf pt nt a1 a2 b1 b2 an1 ac1 an2 ac2 bn1 bc1 bn2 bc2 tf tt h hv htf htt hb0 hbd ht0 hs
    cases hno : faceOk us kt pt nt
    · exact fits34_no d D w0 w v vv us vars kf kt pf nf pt nt a1 a2 b1 b2 an1 ac1 an2 ac2 bn1 bc1 bn2 bc2 tf tt h hv htf htt hb0 hbd h0 ht0 hs h4 hno
    by_cases h5 : kf = 5
    · subst h5; exact fits34_ptr d D w0 w v vv us vars kt pf nf pt nt a1 a2 b1 b2 an1 ac1 an2 ac2 bn1 bc1 bn2 bc2 tf tt h hv htf htt hb0 hbd ht0 hs hno
    by_cases h8 : kf = 8
    · subst h8; exact fits34_face d D w0 w v vv us vars kt pf nf pt nt a1 a2 b1 b2 an1 ac1 an2 ac2 bn1 bc1 bn2 bc2 tf tt h hv htf htt hb0 hbd ht0 hs hno
    by_cases h9 : kf = 9
    · subst h9; exact fits34_var d D w0 w v vv us vars kt pf nf pt nt a1 a2 b1 b2 an1 ac1 an2 ac2 bn1 bc1 bn2 bc2 tf tt h hv htf htt hb0 hbd ht0 hs hno
    exact fits34_other d D w0 w v vv us vars kf kt pf nf pt nt a1 a2 b1 b2 an1 ac1 an2 ac2 bn1 bc1 bn2 bc2 tf tt h hv htf htt hb0 hbd h0 ht0 hs h4 h5 h8 h9 hno
end Go.Proofs.Ytcelpmojhjnggaa
