/- The document's Methods. -/
import Derived.Test.YtcelpmojhjnggaaX3
import Derived.Deep.Cut
import Derived.Deep.DeepCutAuto
import Derived.Deep.RegionHeld3
import Derived.BigRegion
namespace Go.Proofs.Ytcelpmojhjnggaa
open Go Go.RowKit Go.Sort Go.Deep KindsP
set_option maxHeartbeats 4000000
set_option maxRecDepth 100000

/-- what Methods leaves: fields made anew -/
def MethPost (w : World) (d : Nat) (L : List Fld) (e : Ending) (w' : World) : Prop := Below w.heap.size w w' ∧ ∃ u, e = .returned u ∧ RowG 6 (LiesFI (fun b => w.heap.size ≤ b) w' d) w' u L
theorem RowG.fi {ok ok' : Nat → Prop} {w : World} {d : Nat} {v : Value} {l : List Fld} (h : RowG 6 (LiesFI ok w d) w v l) (hk : ∀ b, ok b → ok' b) : RowG 6 (LiesFI ok' w d) w v l := h.mono (fun _ _ h => h.kept (fun b hb _ => ⟨hk b hb, rfl⟩)) (Below.refl _ _)
theorem meth_plain (d : Nat) (w0 w : World) (v vv : Value) (us : List Unt) (k : Int) (p n : ByteArray) (a1 a2 : Option Addr) (n1 c1 n2 c2 : Nat) (bv : Option Addr) (mv ev : Nat) (hvv : vv = .slice bv mv ev) (h : RowG 4 (LiesU w0 d) w0 v us) (hb0 : Below w0.heap.size w0 w) (h5 : ¬ k = 5) (h9 : ¬ k = 9) (hbd : (baseL us k p n).length ≤ 1000000) (hst : ∀ x ∈ baseL us k p n, sizT x.ty ≤ 1000000000) :
    Calls Try.prog 29 #[v, vv, .agg #[.int .i64 k, .string p, .string n, .slice a1 n1 c1, .slice a2 n2 c2]] w (MethPost w (d + 1) (isort ltF (baseL us k p n))) := by
  subst hvv
  have hb1 : Below w.heap.size w (w.alloc (.cells #[.int .i64 k, .string p, .string n, .slice a1 n1 c1, .slice a2 n2 c2] 31)) := (Below.refl _ _).alloc (Nat.le_refl _) _
  have HF := Lib.hid (face_any d w0 (w.alloc (.cells #[.int .i64 k, .string p, .string n, .slice a1 n1 c1, .slice a2 n2 c2] 31)) v us k p n a1 a2 n1 c1 n2 c2 h (hb0.alloc hb0.size _))
  have e5 : (k == 5) = false := by simpa using h5
  have e9 : (k == 9) = false := by simpa using h9
  have HBL := Lib.hid (show baseL us k p n = if faceOk us k p n = true then (faceD us k p n).fields else [] by
    unfold baseL faceOk faceD
    rw [if_neg h5]
    by_cases h8 : k = 8
    · subst h8; simp
    · simp [h8])
  obtain ⟨fl, hfl⟩ : ∃ fl, faceOk us k p n = fl := ⟨_, rfl⟩
  obtain ⟨x, hx⟩ : ∃ x, faceD us k p n = x := ⟨_, rfl⟩
  rw [hfl, hx] at HBL
  have HFL := Lib.hid hfl
  have HXE := Lib.hid hx
  clear hfl hx
  generalize baseL us k p n = L at hbd hst HBL ⊢
  obtain ⟨a, c, rfl, _⟩ := h.form
  have H0 := Lib.hid hb0
  have hw0w := hb0.size
  have HBD := Lib.hid hbd
  have HST := Lib.hid hst
  clear h hb0 hb1 hbd hst h5 h9
  go_enter Try.func29, Try.ntmps29
  go_wp2_with (first | (go_at_call 52; refine HF.out.mono ?_; rintro e w2 ⟨hb2, kd, nm, of, vl, x0, x1, x2, x3, x4, x5, x6, x7, x8, xf, nf, cf, rfl, hl⟩; refine Hid.out ?_))
  refine Lib.hid ?_
  rw [HFL.out]
  rw [HXE.out] at hl
  obtain ⟨hk2, hbw⟩ := alloc_known hb2
  have hsz : w.heap.size < w2.heap.size := (Array.getElem?_eq_some_iff.1 hk2).1
  have HBX := Lib.hid (fun W (hb : Below w2.heap.size w2 W) => (show W.cell? ⟨w.heap.size, 0, none⟩ = some (.int .i64 k) from cell_on hb ((cell_of_row _ _ 0 _ _ _ hk2).trans rfl)))
  obtain ⟨z0, z1, z2, z3, z4, vf, e, _, hfs⟩ := hl
  have hvf : some (Value.slice xf nf cf) = some vf := congrArg (fun l : List Value => l[9]?) e
  obtain rfl := Option.some.inj hvf
  clear e hvf
  have hb3 := hbw.alloc (Nat.le_of_lt hsz) (.cells #[.int .i64 kd, .string nm, .string of, .int .i64 vl, .int .i64 x0, .string x1, .string x2, .slice x3 x4 x5, .slice x6 x7 x8, .slice xf nf cf] 41)
  have H00 := H0.out.trans (hb3.mono hw0w)
  have HB3 := Lib.hid hb3
  have HWW := Lib.hid (show w.heap.size ≤ (w2.alloc (.cells #[.int .i64 kd, .string nm, .string of, .int .i64 vl, .int .i64 x0, .string x1, .string x2, .slice x3 x4 x5, .slice x6 x7 x8, .slice xf nf cf] 41)).heap.size by simp; omega)
  have HW0 := Lib.hid (show w0.heap.size ≤ (w2.alloc (.cells #[.int .i64 kd, .string nm, .string of, .int .i64 vl, .int .i64 x0, .string x1, .string x2, .slice x3 x4 x5, .slice x6 x7 x8, .slice xf nf cf] 41)).heap.size by simp; omega)
  have HX0 := Lib.hid H00
  cases fl with
  | true =>
    rw [if_pos rfl] at HBL
    have HCL := Lib.hid (clone53_any (d + 1) w0 (w2.alloc (.cells #[.int .i64 kd, .string nm, .string of, .int .i64 vl, .int .i64 x0, .string x1, .string x2, .slice x3 x4 x5, .slice x6 x7 x8, .slice xf nf cf] 41)) _ L (by rw [HBL.out]; exact hfs) H00 HBD.out)
    clear hb2 hk2 hbw hfs hb3 H00
    go_wp2_with (first | (go_at_call 53; refine HCL.out.mono ?_; rintro e w4 ⟨hb4, u4, rfl, ho4⟩; have c0 := HBX.out w4 ((Below.refl w2.heap.size w2).alloc (Nat.le_refl _) (.cells #[.int .i64 kd, .string nm, .string of, .int .i64 vl, .int .i64 x0, .string x1, .string x2, .slice x3 x4 x5, .slice x6 x7 x8, .slice xf nf cf] 41) |>.trans (hb4.mono (by simp))); obtain ⟨cl4, hoc4, _⟩ := id ho4; obtain ⟨ao4, cp4, rfl⟩ := own_shape hoc4; have HO4 := Lib.hid ho4; have HB4 := Lib.hid hb4; clear hb4 ho4 hoc4) | (go_at_call 54; refine (sortOwn_any (d + 1) w0 w4 (w2.alloc (.cells #[.int .i64 kd, .string nm, .string of, .int .i64 vl, .int .i64 x0, .string x1, .string x2, .slice x3 x4 x5, .slice x6 x7 x8, .slice xf nf cf] 41)).heap.size _ L HW0.out HB4.out.size HBD.out HO4.out).mono ?_; rintro e w5 ⟨⟨u5, rfl⟩, hr5, hb5⟩; have HR5 := Lib.hid hr5; have HB5 := Lib.hid (HB4.out.trans hb5); clear hr5 hb5) | (go_at_call 57; refine (each57_any (d + 1) w5 _ (isort ltF L) (HR5.out.mono (LiesF.below (HX0.out.trans (HB5.out.mono HW0.out)) (d + 1)) (Below.refl _ _)) (by rw [isort_length]; exact HBD.out) (fun y hy => HST.out y (isort_mem.1 hy))).mono ?_; rintro e w6 ⟨u6, rfl, hr6, hb6⟩; have HR6 := Lib.hid hr6; have HB6 := Lib.hid hb6; clear hr6 hb6))
    go_ret
    exact ⟨(HB3.out.trans (HB5.out.mono HWW.out)).trans (HB6.out.mono (Nat.le_trans HWW.out HB5.out.size)), _, rfl, HR6.out.fi (fun b hb => Nat.le_trans (Nat.le_trans HWW.out HB5.out.size) hb)⟩
  | false =>
    rw [if_neg (by decide)] at HBL
    have c0 := HBX.out (w2.alloc (.cells #[.int .i64 kd, .string nm, .string of, .int .i64 vl, .int .i64 x0, .string x1, .string x2, .slice x3 x4 x5, .slice x6 x7 x8, .slice xf nf cf] 41)) ((Below.refl w2.heap.size w2).alloc (Nat.le_refl _) _)
    have c0' := HBX.out w2 (Below.refl _ _)
    clear hb2 hk2 hbw hfs hb3 H00
    go_wp2_with (first | (go_at_call 54; refine (sortOwn_any (d + 1) w0 (w2.alloc (.cells #[.int .i64 kd, .string nm, .string of, .int .i64 vl, .int .i64 x0, .string x1, .string x2, .slice x3 x4 x5, .slice x6 x7 x8, .slice xf nf cf] 41)) (w2.alloc (.cells #[.int .i64 kd, .string nm, .string of, .int .i64 vl, .int .i64 x0, .string x1, .string x2, .slice x3 x4 x5, .slice x6 x7 x8, .slice xf nf cf] 41)).heap.size _ [] HW0.out (Nat.le_refl _) (by simp) (OwnF.nil _ _ _ _)).mono ?_; rintro e w5 ⟨⟨u5, rfl⟩, hr5, hb5⟩; have HR5 := Lib.hid hr5; have HB5 := Lib.hid hb5; clear hr5 hb5) | (go_at_call 57; refine (each57_any (d + 1) w5 _ (isort ltF []) (HR5.out.mono (LiesF.below (HX0.out.trans (HB5.out.mono HW0.out)) (d + 1)) (Below.refl _ _)) (by rw [isort_length]; simp) (fun y hy => by cases isort_mem.1 hy)).mono ?_; rintro e w6 ⟨u6, rfl, hr6, hb6⟩; have HR6 := Lib.hid hr6; have HB6 := Lib.hid hb6; clear hr6 hb6))
    go_ret
    rw [HBL.out]
    exact ⟨(HB3.out.trans (HB5.out.mono HWW.out)).trans (HB6.out.mono (Nat.le_trans HWW.out HB5.out.size)), _, rfl, HR6.out.fi (fun b hb => Nat.le_trans (Nat.le_trans HWW.out HB5.out.size) hb)⟩
end Go.Proofs.Ytcelpmojhjnggaa
