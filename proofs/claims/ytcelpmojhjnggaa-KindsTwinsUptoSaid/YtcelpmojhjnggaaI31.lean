/- Methods, its answer one's own. -/
import Derived.Test.YtcelpmojhjnggaaI30
import Derived.Deep.Cut
import Derived.Deep.DeepCutAuto
import Derived.Deep.RegionHeld3
import Derived.BigRegion
namespace Go.Proofs.Ytcelpmojhjnggaa
open Go Go.RowKit Go.Sort Go.Deep KindsP
set_option maxHeartbeats 4000000
set_option maxRecDepth 100000

theorem methf_var (d : Nat) (w0 w : World) (v vv : Value) (us : List Unt) (vars : List Fld) (p n : ByteArray) (a1 a2 : Option Addr) (n1 c1 n2 c2 : Nat) (h : RowG 4 (LiesU w0 d) w0 v us) (hv : RowG 6 (LiesF w0 d) w0 vv vars) (hb0 : Below w0.heap.size w0 w) (hbd : ∀ p n, (baseL us 8 p n).length ≤ 1000000) (hst : ∀ p n, ∀ x ∈ baseL us 8 p n, sizT x.ty ≤ 1000000000) :
    Calls Try.prog 29 #[v, vv, .agg #[.int .i64 9, .string p, .string n, .slice a1 n1 c1, .slice a2 n2 c2]] w (MethPostF w (d + 1) (methL us vars 9 p n)) := by
  have hb1 : Below w.heap.size w (w.alloc (.cells #[.int .i64 9, .string p, .string n, .slice a1 n1 c1, .slice a2 n2 c2] 31)) := (Below.refl _ _).alloc (Nat.le_refl _) _
  have HMU := Lib.hid (must_any d w0 (w.alloc (.cells #[.int .i64 9, .string p, .string n, .slice a1 n1 c1, .slice a2 n2 c2] 31)) vv vars n hv (hb0.alloc hb0.size _))
  have HM := Lib.hid (show methL us vars 9 p n = (if Ty.kd (tyO (findF vars n)) = 8 then isort ltF (baseL us 8 (Ty.pk (tyO (findF vars n))) (Ty.nm (tyO (findF vars n)))) else []) by unfold methL; rw [if_pos rfl])
  have HF := Lib.hid (fun W (hb : Below w0.heap.size w0 W) p n a1 a2 n1 c1 n2 c2 => face_any d w0 W v us 8 p n a1 a2 n1 c1 n2 c2 h hb)
  have HBL0 := Lib.hid (fun p n => (show baseL us 8 p n = if faceOk us 8 p n = true then (faceD us 8 p n).fields else [] by
    unfold baseL faceOk faceD
    rw [if_neg (by decide)]
    simp))
  obtain ⟨M, hM⟩ : ∃ M, methL us vars 9 p n = M := ⟨_, rfl⟩
  have HML := Lib.hid hM
  rw [hM]
  obtain ⟨a, c, rfl, _⟩ := h.form
  obtain ⟨bv, ev, rfl, _⟩ := hv.form
  have H0 := Lib.hid hb0
  have hw0w := hb0.size
  have HBD := Lib.hid hbd
  have HST := Lib.hid hst
  clear h hv hb0 hb1 hbd hst hM
  go_enter Try.func29, Try.ntmps29
  go_wp2_with (first | (go_at_call 51; refine HMU.out.mono ?_; rintro e w2 ⟨hb2, t0, t1, t2, t3, t4, t5, t6, t7, t8, rfl, hl⟩; refine Hid.out ?_))
  refine Lib.hid ?_
  obtain ⟨hk2, hbw⟩ := alloc_known hb2
  have hsz : w.heap.size < w2.heap.size := (Array.getElem?_eq_some_iff.1 hk2).1
  obtain ⟨h0, h1, h2⟩ := lies_head hl
  have HMT : Hid (M = if t0 = 8 then isort ltF (baseL us 8 t1 t2) else []) := Lib.hid (by rw [← HML.out, HM.out, h0, h1, h2])
  have b0 : w2.cell? ⟨w.heap.size, 0, none⟩ = some (.int .i64 9) := (cell_of_row _ _ 0 _ _ _ hk2).trans rfl
  have b1 : w2.cell? ⟨w.heap.size, 1, none⟩ = some (.string p) := (cell_of_row _ _ 1 _ _ _ hk2).trans rfl
  have b2 : w2.cell? ⟨w.heap.size, 2, none⟩ = some (.string n) := (cell_of_row _ _ 2 _ _ _ hk2).trans rfl
  have b3 : w2.cell? ⟨w.heap.size, 3, none⟩ = some (.slice a1 n1 c1) := (cell_of_row _ _ 3 _ _ _ hk2).trans rfl
  have b4 : w2.cell? ⟨w.heap.size, 4, none⟩ = some (.slice a2 n2 c2) := (cell_of_row _ _ 4 _ _ _ hk2).trans rfl
  have fz : ∀ i, w2.frozen? ⟨w.heap.size, i, none⟩ = false := fun i => by simp [World.frozen?, hk2]
  have HX2 := Lib.hid (H0.out.trans (hbw.mono hw0w))
  have HBW := Lib.hid hbw
  have HK2 := Lib.hid hk2
  clear hb2 hk2 hbw hl h0 h1 h2 HMU HM HML
  by_cases h8 : t0 = 8
  · subst h8
    rw [if_pos rfl] at HMT
    obtain ⟨L, hL⟩ : ∃ L, baseL us 8 t1 t2 = L := ⟨_, rfl⟩
    obtain ⟨fl, hfl⟩ : ∃ fl, faceOk us 8 t1 t2 = fl := ⟨_, rfl⟩
    obtain ⟨x, hx⟩ : ∃ x, faceD us 8 t1 t2 = x := ⟨_, rfl⟩
    have HBL := Lib.hid (HBL0.out t1 t2)
    have HBD1 := Lib.hid (HBD.out t1 t2)
    have HST1 := Lib.hid (HST.out t1 t2)
    rw [hL] at HMT HBD1 HST1 HBL
    rw [hfl, hx] at HBL
    have HFL := Lib.hid hfl
    have HXE := Lib.hid hx
    have HX3 := Lib.hid (below_set5 HX2.out hw0w (.int .i64 8) (.string t1) (.string t2) (.slice t3 t4 t5) (.slice t6 t7 t8))
    clear hfl hx hL HBL0
    go_wp2_with (first | (go_at_call 52; refine (HF.out (((((w2.setCell ⟨w.heap.size, 0, none⟩ (.int .i64 8)).setCell ⟨w.heap.size, 1, none⟩ (.string t1)).setCell ⟨w.heap.size, 2, none⟩ (.string t2)).setCell ⟨w.heap.size, 3, none⟩ (.slice t3 t4 t5)).setCell ⟨w.heap.size, 4, none⟩ (.slice t6 t7 t8)) HX3.out t1 t2 t3 t6 t4 t5 t7 t8).mono ?_; rintro e w4 ⟨hb4, kd, nm, of, vl, x0, x1, x2, x3, x4, x5, x6, x7, x8, xf, nf, cf, rfl, hl⟩; refine Hid.out ?_))
    refine Lib.hid ?_
    rw [HFL.out]
    rw [HXE.out] at hl
    have hbx := setAt (i := 4) (.slice t6 t7 t8) (setAt (i := 3) (.slice t3 t4 t5) (setAt (i := 2) (.string t2) (setAt (i := 1) (.string t1) (setAt (i := 0) (.int .i64 8) HK2.out))))
    have hbw3 := below_set5 HBW.out (Nat.le_refl _) (.int .i64 8) (.string t1) (.string t2) (.slice t3 t4 t5) (.slice t6 t7 t8)
    have hx3 := HX3.out
    generalize (((((w2.setCell ⟨w.heap.size, 0, none⟩ (.int .i64 8)).setCell ⟨w.heap.size, 1, none⟩ (.string t1)).setCell ⟨w.heap.size, 2, none⟩ (.string t2)).setCell ⟨w.heap.size, 3, none⟩ (.slice t3 t4 t5)).setCell ⟨w.heap.size, 4, none⟩ (.slice t6 t7 t8)) = w3 at hb4 hbx hbw3 hx3
    have hsz3 : w.heap.size < w3.heap.size := (Array.getElem?_eq_some_iff.1 hbx).1
    have hc3 : w3.cell? ⟨w.heap.size, 0, none⟩ = some (.int .i64 8) := by simp [World.cell?, hbx]
    have HBX := Lib.hid (fun W (hb : Below w3.heap.size w3 W) => (show W.cell? ⟨w.heap.size, 0, none⟩ = some (.int .i64 8) from cell_on hb hc3))
    obtain ⟨z0, z1, z2, z3, z4, vf, e, _, hfs⟩ := hl
    have hvf : some (Value.slice xf nf cf) = some vf := congrArg (fun l : List Value => l[9]?) e
    obtain rfl := Option.some.inj hvf
    clear e hvf
    have HN4 := Lib.hid (show Below w3.heap.size w3 (w4.alloc (.cells #[.int .i64 kd, .string nm, .string of, .int .i64 vl, .int .i64 x0, .string x1, .string x2, .slice x3 x4 x5, .slice x6 x7 x8, .slice xf nf cf] 41)) from hb4.alloc hb4.size _)
    have hb3 := hbw3.trans (HN4.out.mono (Nat.le_of_lt hsz3))
    have H00 := hx3.trans (HN4.out.mono hx3.size)
    have HB3 := Lib.hid hb3
    have HWW := Lib.hid hb3.size
    have HW0 := Lib.hid H00.size
    have HX0 := Lib.hid H00
    have hsz4 : w.heap.size < w4.heap.size := Nat.lt_of_lt_of_le hsz3 hb4.size
    have c0' := HBX.out w4 hb4
    cases fl with
    | true =>
      rw [if_pos rfl] at HBL
      have HCL := Lib.hid (clone53_any (d + 1) w0 (w4.alloc (.cells #[.int .i64 kd, .string nm, .string of, .int .i64 vl, .int .i64 x0, .string x1, .string x2, .slice x3 x4 x5, .slice x6 x7 x8, .slice xf nf cf] 41)) _ L (by rw [HBL.out]; exact hfs) H00 HBD1.out)
      clear hb4 hbx hbw3 hx3 hfs hb3 H00 hc3 b0 b1 b2 b3 b4 fz
      go_wp2_with (first | (go_at_call 53; refine HCL.out.mono ?_; rintro e w5 ⟨hb5, u5, rfl, ho5⟩; have c0 := HBX.out w5 (HN4.out.trans (hb5.mono HN4.out.size)); obtain ⟨cl5, hoc5, _⟩ := id ho5; obtain ⟨ao5, cp5, rfl⟩ := own_shape hoc5; have HO5 := Lib.hid ho5; have HB5 := Lib.hid hb5; clear hb5 ho5 hoc5) | (go_at_call 54; refine (sortOwn_any (d + 1) w0 w5 (w4.alloc (.cells #[.int .i64 kd, .string nm, .string of, .int .i64 vl, .int .i64 x0, .string x1, .string x2, .slice x3 x4 x5, .slice x6 x7 x8, .slice xf nf cf] 41)).heap.size _ L HW0.out HB5.out.size HBD1.out HO5.out).mono ?_; rintro e w6 ⟨⟨u6, rfl⟩, hr6, hb6⟩; have HR6 := Lib.hid hr6; have HB6 := Lib.hid (HB5.out.trans hb6); clear hr6 hb6) | (go_at_call 57; refine (each57f_any (d + 1) w6 _ (isort ltF L) (HR6.out.mono (LiesF.below (HX0.out.trans (HB6.out.mono HW0.out)) (d + 1)) (Below.refl _ _)) (by rw [isort_length]; exact HBD1.out) (fun y hy => HST1.out y (isort_mem.1 hy))).mono ?_; rintro e w7 ⟨u7, rfl, hr7, hb7⟩; have HR7 := Lib.hid hr7; have HB7 := Lib.hid hb7; clear hr7 hb7))
      go_ret
      rw [HMT.out]
      exact ⟨(HB3.out.trans (HB6.out.mono HWW.out)).trans (HB7.out.mono (Nat.le_trans HWW.out HB6.out.size)), _, rfl, HR7.out.base ((Nat.le_trans HWW.out HB6.out.size))⟩
    | false =>
      rw [if_neg (by decide)] at HBL
      clear hb4 hbx hbw3 hx3 hfs hb3 H00 hc3 b0 b1 b2 b3 b4 fz
      go_wp2_with (first | (go_at_call 54; refine (sortOwn_any (d + 1) w0 (w4.alloc (.cells #[.int .i64 kd, .string nm, .string of, .int .i64 vl, .int .i64 x0, .string x1, .string x2, .slice x3 x4 x5, .slice x6 x7 x8, .slice xf nf cf] 41)) (w4.alloc (.cells #[.int .i64 kd, .string nm, .string of, .int .i64 vl, .int .i64 x0, .string x1, .string x2, .slice x3 x4 x5, .slice x6 x7 x8, .slice xf nf cf] 41)).heap.size _ [] HW0.out (Nat.le_refl _) (by simp) (OwnF.nil _ _ _ _)).mono ?_; rintro e w6 ⟨⟨u6, rfl⟩, hr6, hb6⟩; have HR6 := Lib.hid hr6; have HB6 := Lib.hid hb6; clear hr6 hb6) | (go_at_call 57; refine (each57f_any (d + 1) w6 _ (isort ltF []) (HR6.out.mono (LiesF.below (HX0.out.trans (HB6.out.mono HW0.out)) (d + 1)) (Below.refl _ _)) (by rw [isort_length]; simp) (fun y hy => by cases isort_mem.1 hy)).mono ?_; rintro e w7 ⟨u7, rfl, hr7, hb7⟩; have HR7 := Lib.hid hr7; have HB7 := Lib.hid hb7; clear hr7 hb7))
      go_ret
      rw [HMT.out, HBL.out]
      exact ⟨(HB3.out.trans (HB6.out.mono HWW.out)).trans (HB7.out.mono (Nat.le_trans HWW.out HB6.out.size)), _, rfl, HR7.out.base ((Nat.le_trans HWW.out HB6.out.size))⟩
  · have hne : (t0 != 8) = true := by simpa using h8
    rw [if_neg h8] at HMT
    clear h8
    go_wp2_with fail
    go_ret
    rw [HMT.out]
    exact ⟨below_set5 HBW.out (Nat.le_refl _) _ _ _ _ _, _, rfl, OwnFI.nil _ _ _⟩
theorem methf_any (d : Nat) (w0 w : World) (v vv : Value) (us : List Unt) (vars : List Fld) (k : Int) (p n : ByteArray) (a1 a2 : Option Addr) (n1 c1 n2 c2 : Nat) (h : RowG 4 (LiesU w0 d) w0 v us) (hv : RowG 6 (LiesF w0 d) w0 vv vars) (hb0 : Below w0.heap.size w0 w) (hbd : ∀ k p n, (baseL us k p n).length ≤ 1000000) (hst : ∀ k p n, ∀ x ∈ baseL us k p n, sizT x.ty ≤ 1000000000) :
    Calls Try.prog 29 #[v, vv, .agg #[.int .i64 k, .string p, .string n, .slice a1 n1 c1, .slice a2 n2 c2]] w (MethPostF w (d + 1) (methL us vars k p n)) := by
  by_cases h9 : k = 9
  · subst h9
    exact methf_var d w0 w v vv us vars p n a1 a2 n1 c1 n2 c2 h hv hb0 (hbd 8) (hst 8)
  · have hM : methL us vars k p n = isort ltF (baseL us k p n) := by unfold methL; rw [if_neg h9]
    rw [hM]
    obtain ⟨bv, ev, rfl, _⟩ := hv.form
    by_cases h5 : k = 5
    · subst h5
      have hB : baseL us 5 p n = mOf n (declsO (unitF us p)) := by unfold baseL; rw [if_pos rfl]
      have h1 := hbd 5 p n
      have h2 := hst 5 p n
      rw [hB] at h1 h2 ⊢
      exact methf_ptr d w0 w v _ us p n a1 a2 n1 c1 n2 c2 bv _ ev rfl h hb0 h1 h2
    · exact methf_plain d w0 w v _ us k p n a1 a2 n1 c1 n2 c2 bv _ ev rfl h hb0 h5 h9 (hbd k p n) (hst k p n)
end Go.Proofs.Ytcelpmojhjnggaa

/- What is spoilt in an answer leaves all else as it was. -/
namespace Go.Proofs.Ytcelpmojhjnggaa
open Go Go.RowKit Go.Sort Go.Deep KindsP
set_option maxHeartbeats 2000000
set_option maxRecDepth 100000

/-- what lies below lo, or from hi on, stays -/
structure MidW (lo hi : Nat) (a w : World) : Prop where
  os : w.os = a.os
  tape : w.tape = a.tape
  output : w.output = a.output
  size : w.heap.size = a.heap.size
  block : ∀ b, (b < lo ∨ hi ≤ b) → w.heap[b]? = a.heap[b]?
theorem MidW.refl (lo hi : Nat) (w : World) : MidW lo hi w w := ⟨rfl, rfl, rfl, rfl, fun _ _ => rfl⟩
theorem MidW.set {lo hi : Nat} {a w : World} (h : MidW lo hi a w) {b : Nat} (h1 : lo ≤ b) (h2 : b < hi) (i : Nat) (v : Value) : MidW lo hi a (w.setCell ⟨b, i, none⟩ v) :=
  ⟨h.os, h.tape, h.output, by rw [← h.size]; simp [World.setCell], fun k hk => (Below.heap_setCell _ _ _ _ (by show k ≠ b; omega)).trans (h.block k hk)⟩
theorem MidW.below {lo hi : Nat} {w0 a w : World} (h : MidW lo hi a w) (hb : Below w0.heap.size w0 a) (hlo : w0.heap.size ≤ lo) : Below w0.heap.size w0 w :=
  hb.trans ⟨h.os, h.tape, h.output, Nat.le_of_eq h.size.symm, fun k hk => h.block k (.inl (by omega))⟩
theorem MidW.cell {lo hi : Nat} {a w : World} (h : MidW lo hi a w) {b i : Nat} {v : Value} (hb : b < lo) (hc : a.cell? ⟨b, i, none⟩ = some v) : w.cell? ⟨b, i, none⟩ = some v :=
  (World.cell?_of_block (w := a) (w' := w) (h.block b (.inl hb))).trans hc
theorem OwnF.mid {lo hi d B : Nat} {w0 a w : World} {v : Value} {l : List Fld} (h : OwnF w0 d a B v l) (m : MidW lo hi a w) (hB : hi ≤ B) : OwnF w0 d w B v l := by
  obtain ⟨cells, ⟨h1, h2⟩, h3⟩ := h
  refine ⟨cells, ⟨h1, ?_⟩, h3⟩
  rcases h2 with h2 | ⟨g, cap, cur, e1, e2, e3, e4⟩
  · exact .inl h2
  · exact .inr ⟨g, cap, cur, e1, e2, (m.block g (.inr (Nat.le_trans hB e2))).trans e3, e4⟩
/-- so many cells, that nothing freezes -/
def Room (w : World) (b S : Nat) : Prop := ∃ cs t, w.heap[b]? = some (.cells cs t (0, 0)) ∧ S ≤ cs.size
theorem Room.set {w : World} {x S : Nat} (h : Room w x S) (b i : Nat) (v : Value) : Room (w.setCell ⟨b, i, none⟩ v) x S := by
  obtain ⟨cs, t, h1, h2⟩ := h
  by_cases hx : x = b
  · subst hx; exact ⟨_, t, setAt v h1, by simpa using h2⟩
  · exact ⟨cs, t, (Below.heap_setCell _ _ _ _ hx).trans h1, h2⟩
theorem Room.cell {w : World} {b S : Nat} (h : Room w b S) (i : Nat) (hi : i < S) : ∃ v, w.cell? ⟨b, i, none⟩ = some v := by
  obtain ⟨cs, t, h1, h2⟩ := h
  refine ⟨cs[i]'(by omega), ?_⟩
  simp [World.cell?, h1, show i < cs.size by omega]
theorem Room.frozen {w : World} {b S : Nat} (h : Room w b S) (i : Nat) : w.frozen? ⟨b, i, none⟩ = false := by
  obtain ⟨cs, t, h1, h2⟩ := h
  simp [World.frozen?, h1]
theorem Room.lt {w : World} {b S : Nat} (h : Room w b S) : b < w.heap.size := by
  obtain ⟨cs, t, h1, h2⟩ := h
  exact (Array.getElem?_eq_some_iff.1 h1).1
theorem Room.keep {w w' : World} {b S : Nat} (h : Room w b S) (e : w'.heap[b]? = w.heap[b]?) : Room w' b S := by
  obtain ⟨cs, t, h1, h2⟩ := h
  exact ⟨cs, t, e.trans h1, h2⟩
/-- fields of one's own whose names, and whose types' arguments, can be spoilt -/
def Spoil (w : World) (B hi g n : Nat) : Prop := B ≤ g ∧ g < hi ∧ Room w g (n * 6) ∧ ∀ i, i < n → ∃ a m c, w.cell? ⟨g, i * 6 + 4, none⟩ = some (.slice a m c) ∧ m ≤ c ∧ c ≤ maxLen ∧ (m = 0 ∨ ∃ b o, a = some ⟨b, o, none⟩ ∧ B ≤ b ∧ b < hi ∧ b ≠ g ∧ Room w b (o + m * 5))
theorem cell_set_ne {w : World} {g i j : Nat} (h : Room w g 0) (v : Value) (hij : i ≠ j) : (w.setCell ⟨g, i, none⟩ v).cell? ⟨g, j, none⟩ = w.cell? ⟨g, j, none⟩ := by
  obtain ⟨cs, t, h1, _⟩ := h
  simp [World.cell?, setAt v h1, h1, hij]
theorem cell_set_other {w : World} {b g i j : Nat} (v : Value) (h : b ≠ g) : (w.setCell ⟨b, i, none⟩ v).cell? ⟨g, j, none⟩ = w.cell? ⟨g, j, none⟩ :=
  World.cell?_of_block (w := w) (Below.heap_setCell _ _ _ _ (by show g ≠ b; exact Ne.symm h))
theorem Room.some {w : World} {b S : Nat} (h : Room w b S) : Room w b 0 := by
  obtain ⟨cs, t, h1, _⟩ := h
  exact ⟨cs, t, h1, Nat.zero_le _⟩
theorem Spoil.name {w : World} {B hi g n : Nat} (h : Spoil w B hi g n) (i : Nat) (v : Value) : Spoil (w.setCell ⟨g, i * 6, none⟩ v) B hi g n := by
  obtain ⟨h1, h2, h3, h4⟩ := h
  refine ⟨h1, h2, h3.set _ _ _, fun j hj => ?_⟩
  obtain ⟨a, m, c, e, r1, r2, r3⟩ := h4 j hj
  refine ⟨a, m, c, (cell_set_ne h3.some v (by omega)).trans e, r1, r2, ?_⟩
  rcases r3 with r3 | ⟨b, o, e1, e2, e3, e4, e5⟩
  · exact .inl r3
  · exact .inr ⟨b, o, e1, e2, e3, e4, e5.set _ _ _⟩
theorem Spoil.arg {w : World} {B hi g n : Nat} (h : Spoil w B hi g n) {b : Nat} (hb : b ≠ g) (i : Nat) (v : Value) : Spoil (w.setCell ⟨b, i, none⟩ v) B hi g n := by
  obtain ⟨h1, h2, h3, h4⟩ := h
  refine ⟨h1, h2, h3.set _ _ _, fun j hj => ?_⟩
  obtain ⟨a, m, c, e, r1, r2, r3⟩ := h4 j hj
  refine ⟨a, m, c, (cell_set_other v hb).trans e, r1, r2, ?_⟩
  rcases r3 with r3 | ⟨b', o, e1, e2, e3, e4, e5⟩
  · exact .inl r3
  · exact .inr ⟨b', o, e1, e2, e3, e4, e5.set _ _ _⟩
theorem Spoil.keep {w w' : World} {B hi g n : Nat} (h : Spoil w B hi g n) (hk : ∀ b, b < hi → w'.heap[b]? = w.heap[b]?) : Spoil w' B hi g n := by
  obtain ⟨h1, h2, h3, h4⟩ := h
  refine ⟨h1, h2, h3.keep (hk g h2), fun j hj => ?_⟩
  obtain ⟨a, m, c, e, r1, r2, r3⟩ := h4 j hj
  refine ⟨a, m, c, (World.cell?_of_block (w := w) (w' := w') (hk g h2)).trans e, r1, r2, ?_⟩
  rcases r3 with r3 | ⟨b, o, e1, e2, e3, e4, e5⟩
  · exact .inl r3
  · exact .inr ⟨b, o, e1, e2, e3, e4, e5.keep (hk b e3)⟩
theorem OwnFI.spoil {w : World} {d B : Nat} {u : Value} {L : List Fld} (h : OwnFI w d B u L) : ∃ ag cap, u = .slice ag L.length cap ∧ L.length ≤ cap ∧ cap ≤ maxLen ∧ (0 < L.length → ∃ g, ag = some ⟨g, 0, none⟩ ∧ Spoil w B w.heap.size g L.length) := by
  obtain ⟨cells, h1, h2⟩ := h
  have hrow := CellsR.rowG h1 h2
  rcases h1.2 with ⟨rfl, h0⟩ | ⟨g, cap, cur, rfl, hB, hg, hnc, hcm, hsz, htk⟩
  · exact ⟨none, 0, by rw [h0], by omega, by unfold maxLen; omega, fun h => by omega⟩
  · refine ⟨_, cap, rfl, hnc, hcm, fun _ => ⟨g, rfl, hB, (Array.getElem?_eq_some_iff.1 hg).1, ⟨cur, 52, hg, by rw [hsz]; exact Nat.mul_le_mul_right 6 hnc⟩, fun i hi => ?_⟩⟩
    obtain ⟨cs, ⟨z0, z1, z2, z3, z4, rfl, hin⟩, hcs⟩ := hrow.get i L[i] (by simp)
    have hc := hcs 4 _ rfl
    rw [Nat.zero_add] at hc
    obtain ⟨x, hx⟩ : ∃ x, L[i] = x := ⟨_, rfl⟩
    rw [hx] at hin
    obtain ⟨nm, t⟩ := x
    dsimp only at hin
    cases d with
    | zero => exact hin.elim
    | succ d =>
      obtain ⟨k', p', n', la, lr⟩ := t
      obtain ⟨va, vr, e, ⟨a, c, rfl, e2, e3, e4⟩, _⟩ := hin
      have hz : some z3 = some (Value.slice a la.length c) := by
        have := congrArg (fun v => match v with | Value.agg l => l[3]? | _ => none) e
        simpa using this
      obtain rfl := Option.some.inj hz
      refine ⟨a, la.length, c, hc, e2, e3, ?_⟩
      rcases e4 with e4 | ⟨b, o, e5, ⟨hb1, hb2, hb3⟩, hf⟩
      · exact .inl (by rw [e4]; rfl)
      · by_cases hl : la.length = 0
        · exact .inl hl
        · obtain ⟨cs, t, ht⟩ := hb3
          refine .inr ⟨b, o, e5, hb1, (Array.getElem?_eq_some_iff.1 ht).1, fun hbg => hb2 (by rw [hbg]; rfl), cs, t, ht, ?_⟩
          obtain ⟨_, _, _, _, _, _, hfive⟩ := hf (la.length - 1) (la[la.length - 1]'(by omega)) (by simp)
          have h5 := hfive.c4
          simp [World.cell?, ht] at h5
          have := (Array.getElem?_eq_some_iff.1 h5).1
          omega
end Go.Proofs.Ytcelpmojhjnggaa
