/- The document's Methods. -/
import Derived.Test.YtcelpmojhjnggaaH23
import Derived.Deep.Cut
import Derived.Deep.DeepCutAuto
import Derived.Deep.RegionHeld3
import Derived.BigRegion
import Derived.Test.YtcelpmojhjnggaaH09
namespace Go.Proofs.Ytcelpmojhjnggaa
open Go Go.RowKit Go.Sort Go.Deep KindsP
set_option maxHeartbeats 4000000
set_option maxRecDepth 100000

theorem comp36_any (d : Nat) (w0 w : World) (vv : Value) (vars : List Fld) (k : Int) (p n : ByteArray) (a1 a2 : Option Addr) (n1 c1 n2 c2 : Nat) (hv : RowG 6 (LiesF w0 d) w0 vv vars) (hb0 : Below w0.heap.size w0 w) :
    Calls Try.prog 36 #[vv, .agg #[.int .i64 k, .string p, .string n, .slice a1 n1 c1, .slice a2 n2 c2]] w fun e w' => e = .returned (.bool (compB vars k n)) ∧ Below w.heap.size w w' := by
  have h := Lib.hid (known60_any d w0 (w.alloc (.cells #[.int .i64 k, .string p, .string n, .slice a1 n1 c1, .slice a2 n2 c2] 31)) vv vars n hv (hb0.alloc hb0.size _))
  have HV := Lib.hid hv
  have H0 := Lib.hid hb0
  obtain ⟨bv, ev, rfl, hcc, hcm, hf⟩ := hv.form
  have hll := Nat.le_trans hcc hcm
  unfold maxLen at hll
  clear hv hb0
  by_cases h1 : k = 1
  · subst h1
    clear h
    go_enter Try.func36, Try.ntmps36
    go_wp2_with fail
    go_ret
    exact ⟨rfl, (Below.refl _ _).alloc (Nat.le_refl _) _⟩
  by_cases h2 : k = 2
  · subst h2
    clear h
    go_enter Try.func36, Try.ntmps36
    go_wp2_with fail
    go_ret
    exact ⟨rfl, (Below.refl _ _).alloc (Nat.le_refl _) _⟩
  by_cases h3 : k = 3
  · subst h3
    clear h
    go_enter Try.func36, Try.ntmps36
    go_wp2_with fail
    go_ret
    exact ⟨rfl, (Below.refl _ _).alloc (Nat.le_refl _) _⟩
  by_cases h5 : k = 5
  · subst h5
    clear h
    go_enter Try.func36, Try.ntmps36
    go_wp2_with fail
    go_ret
    exact ⟨rfl, (Below.refl _ _).alloc (Nat.le_refl _) _⟩
  by_cases h8 : k = 8
  · subst h8
    clear h
    go_enter Try.func36, Try.ntmps36
    go_wp2_with fail
    go_ret
    exact ⟨rfl, (Below.refl _ _).alloc (Nat.le_refl _) _⟩
  by_cases h9 : k = 9
  · subst h9
    have HC := Lib.hid (show compB vars 9 n = (Ty.kd (tyO (findF vars n)) == 2) by unfold compB; simp)
    clear h1 h2 h3 h5 h8
    go_enter Try.func36, Try.ntmps36
    go_wp2_with (first | (go_at_call 60; refine h.out.mono ?_; rintro e w2 ⟨⟨iu, rfl, hiu⟩, hw2⟩; have HW2 := Lib.hid hw2; clear hw2; refine Hid.out ?_))
    refine Lib.hid ?_
    have HBW : Hid (Below w.heap.size w w2) := Lib.hid (by rw [HW2.out]; exact (Below.refl _ _).alloc (Nat.le_refl _) _)
    have H00 := Lib.hid (H0.out.trans (HBW.out.mono H0.out.size))
    clear HW2 h
    unfold KnownIs at hiu
    cases hun : findF vars n with
    | none =>
      rw [hun] at hiu
      obtain rfl : iu = -1 := hiu
      have HF := Lib.hid (show compB vars 9 n = false by rw [HC.out, hun]; rfl)
      clear hun
      go_wp2_with fail
      go_ret
      refine ⟨?_, HBW.out⟩
      rw [HF.out]
      rfl
    | some x =>
      rw [hun] at hiu
      obtain ⟨ku, rfl, hku⟩ := hiu
      have hkl : ku < vars.length := (List.getElem?_eq_some_iff.1 hku).1
      have ku0 : (0 : Int) ≤ (ku : Int) := by omega
      have ku1 : (ku : Int) < (vars.length : Int) := by omega
      obtain ⟨bu, ou, rfl⟩ := hf (by omega)
      obtain ⟨cs, ⟨z0, z1, z2, z3, z4, rfl, hty⟩, hcs⟩ := HV.out.get ku x hku
      obtain ⟨xn, t⟩ := x
      dsimp only at hty hcs
      obtain ⟨x0, x1, x2, x3, x4, x5, x6, x7, x8, rfl, rfl, rfl, rfl, rfl⟩ := lies_form hty
      have HF := Lib.hid (show compB vars 9 n = (x0 == 2) by rw [HC.out, hun]; show (Ty.kd t == 2) = _; rw [(lies_head hty).1])
      have g1 := cell_on H00.out (hcs 1 _ rfl)
      clear hcs hty hku hun
      go_wp2_with fail
      go_ret
      refine ⟨?_, HBW.out⟩
      rw [HF.out]
      rfl
  · have HC := Lib.hid (show compB vars k n = false by unfold compB; simp [h1, h2, h3, h5, h8, h9])
    have e1 : (k == 1) = false := by simpa using h1
    have e2 : (k == 2) = false := by simpa using h2
    have e3 : (k == 3) = false := by simpa using h3
    have e5 : (k == 5) = false := by simpa using h5
    have e8 : (k == 8) = false := by simpa using h8
    have e9 : (k == 9) = false := by simpa using h9
    clear h h1 h2 h3 h5 h8 h9
    go_enter Try.func36, Try.ntmps36
    go_wp2_with fail
    go_ret
    refine ⟨?_, (Below.refl _ _).alloc (Nat.le_refl _) _⟩
    rw [HC.out]
    rfl
end Go.Proofs.Ytcelpmojhjnggaa

/- Has a type's methods one like this? -/
namespace Go.Proofs.Ytcelpmojhjnggaa
open Go Go.RowKit Go.Sort Go.Deep KindsP
set_option maxHeartbeats 4000000
set_option maxRecDepth 100000

/-- is one method another one? -/
def fitM (f m : Fld) : Bool := (f.name == m.name) && sameT f.ty m.ty
def hasM (l : List Fld) (m : Fld) : Bool := l.any (fun f => fitM f m)
theorem hasM_at (l : List Fld) (m : Fld) (k : Nat) (h : k < l.length) : hasM (l.drop k) m = (fitM l[k] m || hasM (l.drop (k + 1)) m) := by
  unfold hasM
  rw [List.drop_eq_getElem_cons h, List.any_cons]
theorem clo62_any (d d' : Nat) (w : World) (q : Nat) (fn mn : ByteArray) (x0 : Int) (x1 x2 : ByteArray) (x3 : Option Addr) (x4 x5 : Nat) (x6 : Option Addr) (x7 x8 : Nat) (y0 : Int) (y1 y2 : ByteArray) (y3 : Option Addr) (y4 y5 : Nat) (y6 : Option Addr) (y7 y8 : Nat) (ft mt : Ty)
    (hf : Lies w d (.agg #[.int .i64 x0, .string x1, .string x2, .slice x3 x4 x5, .slice x6 x7 x8]) ft) (hm : Lies w d' (.agg #[.int .i64 y0, .string y1, .string y2, .slice y3 y4 y5, .slice y6 y7 y8]) mt)
    (hq : w.heap[q]? = some (.cells #[.string mn, .int .i64 y0, .string y1, .string y2, .slice y3 y4 y5, .slice y6 y7 y8] 52)) :
    Calls Try.prog 62 #[.agg #[.string fn, .int .i64 x0, .string x1, .string x2, .slice x3 x4 x5, .slice x6 x7 x8], .pointer (some ⟨q, 0, none⟩)] w fun e w' => e = .returned (.bool (fitM ⟨fn, ft⟩ ⟨mn, mt⟩)) ∧ Below w.heap.size w w' := by
  have hb1 : Below w.heap.size w (w.alloc (.cells #[.string fn, .int .i64 x0, .string x1, .string x2, .slice x3 x4 x5, .slice x6 x7 x8] 52)) := (Below.refl _ _).alloc (Nat.le_refl _) _
  have hql : q < w.heap.size := (Array.getElem?_eq_some_iff.1 hq).1
  have hqa : (w.alloc (.cells #[.string fn, .int .i64 x0, .string x1, .string x2, .slice x3 x4 x5, .slice x6 x7 x8] 52)).heap[q]? = some (.cells #[.string mn, .int .i64 y0, .string y1, .string y2, .slice y3 y4 y5, .slice y6 y7 y8] 52) := (hb1.block q hql).trans hq
  obtain ⟨W1, hW1⟩ : ∃ W, W = w.alloc (.cells #[.string fn, .int .i64 x0, .string x1, .string x2, .slice x3 x4 x5, .slice x6 x7 x8] 52) := ⟨_, rfl⟩
  have c0 : w.cell? ⟨q, 0, none⟩ = some (.string mn) := by simp [World.cell?, hq]
  have g0 : (w.alloc (.cells #[.string fn, .int .i64 x0, .string x1, .string x2, .slice x3 x4 x5, .slice x6 x7 x8] 52)).cell? ⟨q, 0, none⟩ = some (.string mn) := (cell_of_row _ _ 0 _ _ _ hqa).trans rfl
  have g1 : (w.alloc (.cells #[.string fn, .int .i64 x0, .string x1, .string x2, .slice x3 x4 x5, .slice x6 x7 x8] 52)).cell? ⟨q, 1, none⟩ = some (.int .i64 y0) := (cell_of_row _ _ 1 _ _ _ hqa).trans rfl
  have g2 : (w.alloc (.cells #[.string fn, .int .i64 x0, .string x1, .string x2, .slice x3 x4 x5, .slice x6 x7 x8] 52)).cell? ⟨q, 2, none⟩ = some (.string y1) := (cell_of_row _ _ 2 _ _ _ hqa).trans rfl
  have g3 : (w.alloc (.cells #[.string fn, .int .i64 x0, .string x1, .string x2, .slice x3 x4 x5, .slice x6 x7 x8] 52)).cell? ⟨q, 3, none⟩ = some (.string y2) := (cell_of_row _ _ 3 _ _ _ hqa).trans rfl
  have g4 : (w.alloc (.cells #[.string fn, .int .i64 x0, .string x1, .string x2, .slice x3 x4 x5, .slice x6 x7 x8] 52)).cell? ⟨q, 4, none⟩ = some (.slice y3 y4 y5) := (cell_of_row _ _ 4 _ _ _ hqa).trans rfl
  have g5 : (w.alloc (.cells #[.string fn, .int .i64 x0, .string x1, .string x2, .slice x3 x4 x5, .slice x6 x7 x8] 52)).cell? ⟨q, 5, none⟩ = some (.slice y6 y7 y8) := (cell_of_row _ _ 5 _ _ _ hqa).trans rfl
  have HS := Lib.hid (same_any d d' _ _ _ ft mt (Lies.below hb1 _ _ _ hf) (Lies.below hb1 _ _ _ hm))
  have HB := Lib.hid hb1
  clear hb1 hq hqa hW1 hf hm c0
  have hp0 : fitM ⟨fn, ft⟩ ⟨mn, mt⟩ = ((fn == mn) && sameT ft mt) := rfl
  have HP := Lib.hid hp0
  clear hp0
  obtain ⟨r, hr⟩ : ∃ r, fitM ⟨fn, ft⟩ ⟨mn, mt⟩ = r := ⟨_, rfl⟩
  have HR := Lib.hid hr
  rw [hr]
  clear hr
  cases hp : (fn == mn)
  · have hp' : (fn.toList == mn.toList) = false := by simpa using list_eq hp
    have HV : Hid (r = false) := Lib.hid (by rw [← HR.out, HP.out, hp]; rfl)
    clear hp
    go_enter Try.func62, Try.ntmps62
    go_wp2_with fail
    go_ret
    obtain rfl := HV.out
    exact ⟨rfl, HB.out⟩
  · have hp' := list_eq' hp
    have HV : Hid (r = sameT ft mt) := Lib.hid (by rw [← HR.out, HP.out, hp]; rfl)
    clear hp
    go_enter Try.func62, Try.ntmps62
    go_wp2_with (first | (go_at_call 21; refine HS.out.mono ?_; rintro e w5 ⟨rfl, hb5⟩; have HB5 := Lib.hid (HB.out.trans (hb5.mono HB.out.size)); clear hb5; rw [← HV.out]))
    go_ret
    exact ⟨rfl, HB5.out⟩
theorem index72_any (d d' : Nat) (w : World) (v : Value) (l : List Fld) (q : Nat) (mn : ByteArray) (y0 : Int) (y1 y2 : ByteArray) (y3 : Option Addr) (y4 y5 : Nat) (y6 : Option Addr) (y7 y8 : Nat) (mt : Ty)
    (h : RowG 6 (LiesF w d) w v l) (hm : Lies w d' (.agg #[.int .i64 y0, .string y1, .string y2, .slice y3 y4 y5, .slice y6 y7 y8]) mt)
    (hq : w.heap[q]? = some (.cells #[.string mn, .int .i64 y0, .string y1, .string y2, .slice y3 y4 y5, .slice y6 y7 y8] 52)) :
    Calls Try.prog 72 #[v, .func (.func 62) #[] #[.pointer (some ⟨q, 0, none⟩)]] w fun e w' => (∃ i : Int, e = .returned (.int .i64 i) ∧ decide (i ≥ 0) = hasM l ⟨mn, mt⟩) ∧ Below w.heap.size w w' := by
  obtain ⟨a, c, rfl, hcc, hcm, hf⟩ := h.form
  have hll := Nat.le_trans hcc hcm
  unfold maxLen at hll
  have HA := Lib.hid h
  have HM := Lib.hid hm
  have HQ := Lib.hid hq
  have hql : q < w.heap.size := (Array.getElem?_eq_some_iff.1 hq).1
  clear h hm hq
  go_enter Try.func72, Try.ntmps72
  go_wp2_with fail
  go_loopw [8] (fun iv wr => ∃ (k : Nat), k ≤ l.length ∧ iv = .int .i64 k ∧ Below w.heap.size w wr ∧ Hid (hasM l ⟨mn, mt⟩ = hasM (l.drop k) ⟨mn, mt⟩)) (fun iv _ => l.length - (intOf iv).toNat)
  case atStart => exact ⟨0, by omega, rfl, Below.refl _ _, rfl⟩
  case round =>
    obtain ⟨k, hk, rfl, hb, H⟩ := hrel
    have HB := Lib.hid hb
    clear hb
    by_cases hlt : k < l.length
    · obtain ⟨b, o, rfl⟩ := hf (by omega)
      obtain ⟨cs, ⟨z0, z1, z2, z3, z4, rfl, hty⟩, hcs⟩ := HA.out.get k l[k] (by simp)
      have HE := Lib.hid (hasM_at l ⟨mn, mt⟩ k hlt)
      obtain ⟨x, hx⟩ : ∃ x, l[k] = x := ⟨_, rfl⟩
      rw [hx] at HE hty hcs
      obtain ⟨nm, t⟩ := x
      dsimp only at HE hty hcs
      obtain ⟨x0, x1, x2, x3, x4, x5, x6, x7, x8, rfl, rfl, rfl, rfl, rfl⟩ := lies_form hty
      have HC := Lib.hid (clo62_any d d' wr q nm mn x0 x1 x2 x3 x4 x5 x6 x7 x8 y0 y1 y2 y3 y4 y5 y6 y7 y8 t mt (Lies.below HB.out _ _ _ hty) (Lies.below HB.out _ _ _ HM.out) ((HB.out.block q hql).trans HQ.out))
      have g0 := cell_on HB.out (hcs 0 _ rfl)
      rw [Nat.add_zero] at g0
      have g1 := cell_on HB.out (hcs 1 _ rfl)
      have g2 := cell_on HB.out (hcs 2 _ rfl)
      have g3 := cell_on HB.out (hcs 3 _ rfl)
      have g4 := cell_on HB.out (hcs 4 _ rfl)
      have g5 := cell_on HB.out (hcs 5 _ rfl)
      clear hcs hty hx
      cases hp : fitM ⟨nm, t⟩ ⟨mn, mt⟩
      all_goals
        rw [hp] at HC
        have HP := Lib.hid hp
        clear hp
        go_wp2_with (first | (go_at_call 62; refine HC.out.mono ?_; rintro e w5 ⟨rfl, hb5⟩; have HB5 := Lib.hid (HB.out.trans (hb5.mono HB.out.size)); clear hb5))
      · exact ⟨⟨k + 1, by omega, by go_num, HB5.out, by rw [H.out, HE.out, HP.out]; rfl⟩, by simp [intOf]; omega⟩
      · go_ret
        refine ⟨⟨_, rfl, ?_⟩, HB5.out⟩
        rw [H.out, HE.out, HP.out, Bool.true_or]
        simp
    · have HR := Lib.hid (show hasM l ⟨mn, mt⟩ = false by rw [H.out, List.drop_eq_nil_of_le (by omega)]; rfl)
      clear H
      go_wp2_with fail
      go_ret
      exact ⟨⟨_, rfl, by rw [HR.out]; rfl⟩, HB.out⟩
theorem contains61_any (d d' : Nat) (w : World) (v : Value) (l : List Fld) (q : Nat) (mn : ByteArray) (y0 : Int) (y1 y2 : ByteArray) (y3 : Option Addr) (y4 y5 : Nat) (y6 : Option Addr) (y7 y8 : Nat) (mt : Ty)
    (h : RowG 6 (LiesF w d) w v l) (hm : Lies w d' (.agg #[.int .i64 y0, .string y1, .string y2, .slice y3 y4 y5, .slice y6 y7 y8]) mt)
    (hq : w.heap[q]? = some (.cells #[.string mn, .int .i64 y0, .string y1, .string y2, .slice y3 y4 y5, .slice y6 y7 y8] 52)) :
    Calls Try.prog 61 #[v, .func (.func 62) #[] #[.pointer (some ⟨q, 0, none⟩)]] w fun e w' => e = .returned (.bool (hasM l ⟨mn, mt⟩)) ∧ Below w.heap.size w w' := by
  have HI := Lib.hid (index72_any d d' w v l q mn y0 y1 y2 y3 y4 y5 y6 y7 y8 mt h hm hq)
  obtain ⟨a, c, rfl, hcc, hcm, hf⟩ := h.form
  clear h hm hq
  go_enter Try.func61, Try.ntmps61
  go_wp2_with (first | (go_at_call 72; refine HI.out.mono ?_; rintro e w5 ⟨⟨i, rfl, hi⟩, hb5⟩; have HB5 := Lib.hid hb5; have HII := Lib.hid hi; clear hb5 hi))
  go_ret
  refine ⟨?_, HB5.out⟩
  rw [← HII.out]
  rfl
end Go.Proofs.Ytcelpmojhjnggaa

/- The document's Methods. -/
namespace Go.Proofs.Ytcelpmojhjnggaa
open Go Go.RowKit Go.Sort Go.Deep KindsP
set_option maxHeartbeats 4000000
set_option maxRecDepth 100000

theorem OwnF.rowG {w0 w : World} {d B : Nat} {v : Value} {l : List Fld} (h : OwnF w0 d w B v l) (hB : w0.heap.size ≤ B) : RowG 6 (LiesF w0 d) w v l := by
  obtain ⟨cells, hoc, hcells⟩ := id h
  rcases hoc.2 with ⟨rfl, h2⟩ | ⟨g, cp, cur, rfl, _⟩
  · obtain rfl := List.length_eq_zero_iff.1 h2
    exact RowG.nil _ _ _
  · obtain ⟨_, _, hnc, hcm, hrow, _⟩ := h.row hB
    exact hrow.rowG hnc hcm
theorem KindsMethods_x (d D : Nat) (w : World) (v vv : Value) (us : List Unt) (vars : List Fld) (k : Int) (p n : ByteArray) (a1 a2 : Option Addr) (n1 c1 n2 c2 : Nat) (t : Ty) (h : RowG 4 (LiesU w d) w v us) (hv : RowG 6 (LiesF w d) w vv vars) (ht : Lies w D (.agg #[.int .i64 k, .string p, .string n, .slice a1 n1 c1, .slice a2 n2 c2]) t) (hbd : ∀ k p n, (baseL us k p n).length ≤ 1000000) (hst : ∀ k p n, ∀ x ∈ baseL us k p n, sizT x.ty ≤ 1000000000) :
    Calls Try.prog 8 #[v, vv, .agg #[.int .i64 k, .string p, .string n, .slice a1 n1 c1, .slice a2 n2 c2]] w fun e w' => e = .returned (.bool true) ∧ Below w.heap.size w w' := by
  have hb1 : Below w.heap.size w (w.alloc (.cells #[.int .i64 k, .string p, .string n, .slice a1 n1 c1, .slice a2 n2 c2] 31)) := (Below.refl _ _).alloc (Nat.le_refl _) _
  have HU := Lib.hid (units_some d (w.alloc (.cells #[.int .i64 k, .string p, .string n, .slice a1 n1 c1, .slice a2 n2 c2] 31)) v us (h.mono (LiesU.below hb1 d) hb1))
  have HFI := Lib.hid (fun W (hb : Below w.heap.size w W) => fields_some d W vv vars (hv.mono (LiesF.below hb d) hb))
  have HGR := Lib.hid (fun W (hb : Below w.heap.size w W) => great_any D (W.alloc (.cells #[.int .i64 k, .string p, .string n, .slice a1 n1 c1, .slice a2 n2 c2] 31)) (.slice (some ⟨W.heap.size, 0, none⟩) 1 1) [t] (row_one (heap_alloc_new W _) (Lies.below (hb.alloc hb.size _) _ _ _ ht)))
  have HME := Lib.hid (fun W (hb : Below w.heap.size w W) => meth_any d w W v vv us vars k p n a1 a2 n1 c1 n2 c2 h hv hb hbd hst)
  have HRM := Lib.hid (fun W (hb : Below w.heap.size w W) => rmeth_any d w W v vv us vars k p n a1 a2 n1 c1 n2 c2 h hv hb (fun p n => by have := hbd 8 p n; unfold baseL at this; rw [if_neg (by decide), if_pos rfl] at this; exact this) (fun p n => by have := hbd 5 p n; unfold baseL at this; rw [if_pos rfl] at this; exact this))
  generalize methL us vars k p n = L at HME HRM
  have HBX := Lib.hid (fun (W : World) (hb : Below (w.alloc (.cells #[.int .i64 k, .string p, .string n, .slice a1 n1 c1, .slice a2 n2 c2] 31)).heap.size (w.alloc (.cells #[.int .i64 k, .string p, .string n, .slice a1 n1 c1, .slice a2 n2 c2] 31)) W) => (show (W.cell? ⟨w.heap.size, 0, none⟩ = some (.int .i64 k) ∧ W.cell? ⟨w.heap.size, 1, none⟩ = some (.string p) ∧ W.cell? ⟨w.heap.size, 2, none⟩ = some (.string n) ∧ W.cell? ⟨w.heap.size, 3, none⟩ = some (.slice a1 n1 c1) ∧ W.cell? ⟨w.heap.size, 4, none⟩ = some (.slice a2 n2 c2)) ∧ Below w.heap.size w W from by
    obtain ⟨hk, hbw⟩ := alloc_known hb
    exact ⟨⟨(cell_of_row _ _ 0 _ _ _ hk).trans rfl, (cell_of_row _ _ 1 _ _ _ hk).trans rfl, (cell_of_row _ _ 2 _ _ _ hk).trans rfl, (cell_of_row _ _ 3 _ _ _ hk).trans rfl, (cell_of_row _ _ 4 _ _ _ hk).trans rfl⟩, hbw⟩))
  have HS1 := Lib.hid (show w.heap.size ≤ (w.alloc (.cells #[.int .i64 k, .string p, .string n, .slice a1 n1 c1, .slice a2 n2 c2] 31)).heap.size by simp)
  obtain ⟨av, cv, rfl, _⟩ := h.form
  obtain ⟨bv, ev, rfl, _⟩ := hv.form
  clear h hv ht hb1 hbd hst
  cases hg : greatB [t]
  all_goals
    have HGB := Lib.hid hg
    clear hg
    go_enter Try.func8, Try.ntmps8
    go_wp2_with (first | (go_at_call 24; refine HU.out.mono ?_; rintro e w1 ⟨⟨b, rfl⟩, hb1⟩; refine Hid.out ?_))
    refine Lib.hid ?_
    obtain ⟨⟨q0, q1, q2, q3, q4⟩, hbw1⟩ := HBX.out w1 hb1
    have HN1 := Lib.hid hb1
    have HB1 := Lib.hid hbw1
    clear hb1 hbw1
    cases b
    · go_wp2_with (first | (go_at_call 28; refine (HFI.out w1 HB1.out).mono ?_; rintro e w2 ⟨⟨b, rfl⟩, hb2⟩; refine Hid.out ?_))
      refine Lib.hid ?_
      have HN2 := Lib.hid (HN1.out.trans (hb2.mono HN1.out.size))
      clear q0 q1 q2 q3 q4 hb2
      obtain ⟨⟨q0, q1, q2, q3, q4⟩, hbw2⟩ := HBX.out w2 HN2.out
      have HB2 := Lib.hid hbw2
      clear hbw2
      cases b
      · go_wp2_with (first | (go_at_call 12; refine (HGR.out w2 HB2.out).mono ?_; rintro e w3 ⟨rfl, hb3⟩; rw [HGB.out]; refine Hid.out ?_))
        refine Lib.hid ?_
        have HN3 := Lib.hid ((HN2.out.alloc HN2.out.size _).trans (hb3.mono (HN2.out.alloc HN2.out.size _).size))
        clear q0 q1 q2 q3 q4 hb3
        obtain ⟨⟨q0, q1, q2, q3, q4⟩, hbw3⟩ := HBX.out w3 HN3.out
        have HB3 := Lib.hid hbw3
        clear hbw3
        first
          | (go_wp2_with (first | (go_at_call 13; refine (awake_any _).mono ?_; rintro e w9 ⟨rfl, hb9⟩; have HB9 := Lib.hid (HB3.out.trans (hb9.mono HB3.out.size)); clear hb9)); go_ret; exact ⟨rfl, HB9.out⟩)
          | (go_wp2_with (first | (go_at_call 29; refine (HME.out w3 HB3.out).mono ?_; rintro e w4 ⟨hb4, u4, rfl, hr4⟩; obtain ⟨_, _, rfl, _⟩ := id hr4.form; have HR4 := Lib.hid hr4; have HN4 := Lib.hid (HN3.out.trans (hb4.mono HN3.out.size)); obtain ⟨⟨s0, s1, s2, s3, s4⟩, hbw4⟩ := HBX.out w4 (HN3.out.trans (hb4.mono HN3.out.size)); have HB4 := Lib.hid hbw4; clear hb4 hr4 hbw4) | (go_at_call 31; refine (HRM.out w4 HB4.out).mono ?_; rintro e w5 ⟨hb5, u5, rfl, ho5⟩; have HR5 := Lib.hid (ho5.rowG HB4.out.size); have HB54 := Lib.hid hb5; have HB5 := Lib.hid (HB4.out.trans (hb5.mono HB4.out.size)); clear hb5 ho5) | (go_at_call 30; refine (SameFields_same (d + 1) (d + 1) w5 _ _ L ((HR4.out.mono (fun _ _ h => h.lies) (Below.refl _ _)).mono (LiesF.below HB54.out (d + 1)) HB54.out) (HR5.out.mono (LiesF.below HB5.out (d + 1)) (Below.refl _ _))).mono ?_; rintro e w6 ⟨rfl, hb6⟩; have HB6 := Lib.hid (HB5.out.trans (hb6.mono HB5.out.size)); clear hb6) | (go_at_call 13; refine (awake_any _).mono ?_; rintro e w9 ⟨rfl, hb9⟩; have HB9 := Lib.hid (HB6.out.trans (hb9.mono HB6.out.size)); clear hb9)); go_ret; exact ⟨rfl, HB9.out⟩)
      · go_wp2_with (first | (go_at_call 13; refine (awake_any _).mono ?_; rintro e w9 ⟨rfl, hb9⟩; have HB9 := Lib.hid (HB2.out.trans (hb9.mono HB2.out.size)); clear hb9))
        go_ret
        exact ⟨rfl, HB9.out⟩
    · go_wp2_with (first | (go_at_call 13; refine (awake_any _).mono ?_; rintro e w9 ⟨rfl, hb9⟩; have HB9 := Lib.hid (HB1.out.trans (hb9.mono HB1.out.size)); clear hb9))
      go_ret
      exact ⟨rfl, HB9.out⟩
end Go.Proofs.Ytcelpmojhjnggaa
