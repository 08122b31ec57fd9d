/- The document's Methods. -/
import Derived.Test.YtcelpmojhjnggaaW4
import Derived.Deep.Cut
import Derived.Deep.DeepCutAuto
import Derived.Deep.RegionHeld3
import Derived.BigRegion
namespace Go.Proofs.Ytcelpmojhjnggaa
open Go Go.RowKit Go.Sort Go.Deep KindsP
set_option maxHeartbeats 4000000
set_option maxRecDepth 100000

theorem rmeth_var (d : Nat) (w0 w : World) (v vv : Value) (us : List Unt) (vars : List Fld) (p n : ByteArray) (a1 a2 : Option Addr) (n1 c1 n2 c2 : Nat) (h : RowG 4 (LiesU w0 d) w0 v us) (hv : RowG 6 (LiesF w0 d) w0 vv vars) (hb0 : Below w0.heap.size w0 w) (hbd : ∀ p n, (fieldsOf ((findU us p n).getD zD)).length ≤ 1000000) :
    Calls Try.prog 31 #[v, vv, .agg #[.int .i64 9, .string p, .string n, .slice a1 n1 c1, .slice a2 n2 c2]] w (PutPost w0 (d + 1) w w.heap.size (methL us vars 9 p n)) := by
  have HK := Lib.hid (known60_any d w0 (w.alloc (.cells #[.int .i64 9, .string p, .string n, .slice a1 n1 c1, .slice a2 n2 c2] 31)) vv vars n hv (hb0.alloc hb0.size _))
  obtain ⟨L, hL⟩ : ∃ L, methL us vars 9 p n = L := ⟨_, rfl⟩
  have HL := Lib.hid hL
  rw [hL]
  have HM := Lib.hid (show methL us vars 9 p n = (if Ty.kd (tyO (findF vars n)) = 8 then isort ltF (baseL us 8 (Ty.pk (tyO (findF vars n))) (Ty.nm (tyO (findF vars n)))) else []) by unfold methL; rw [if_pos rfl])
  have HB8 := Lib.hid (fun p n => (show baseL us 8 p n = fieldsOf ((findU us p n).getD zD) by unfold baseL fieldsOf; rw [if_neg (by decide), if_pos rfl]))
  have HREC := Lib.hid (fun W (hb : Below w0.heap.size w0 W) p n a1 a2 n1 c1 n2 c2 => rmeth_iface d w0 W v us none 0 0 p n a1 a2 n1 c1 n2 c2 h hb (hbd p n))
  obtain ⟨a, c, rfl, _⟩ := h.form
  obtain ⟨b, e, rfl, hcc, hcm, hf⟩ := hv.form
  have hll := Nat.le_trans hcc hcm
  unfold maxLen at hll
  have HV := Lib.hid hv
  have H0 := Lib.hid hb0
  clear h hv hb0 hL
  go_enter Try.func31, Try.ntmps31
  go_wp2_with (first | (go_at_call 60; refine HK.out.mono ?_; rintro e w2 ⟨⟨iu, rfl, hiu⟩, hw2⟩; have HW2 := Lib.hid hw2; clear hw2; refine Hid.out ?_))
  refine Lib.hid ?_
  have HBW : Hid (Below w.heap.size w w2) := Lib.hid (by rw [HW2.out]; exact (Below.refl _ _).alloc (Nat.le_refl _) _)
  have H00 := Lib.hid (H0.out.trans (HBW.out.mono H0.out.size))
  clear HW2 HK
  unfold KnownIs at hiu
  cases hun : findF vars n with
  | none =>
    rw [hun] at hiu
    obtain rfl : iu = -1 := hiu
    have HNIL := Lib.hid (show L = [] by rw [← HL.out, HM.out, hun]; rfl)
    clear hun
    go_wp2_with fail
    go_ret
    refine ⟨HBW.out, _, rfl, ?_⟩
    rw [HNIL.out]
    exact OwnF.nil _ _ _ _
  | some x =>
    rw [hun] at hiu
    obtain ⟨ku, rfl, hku⟩ := hiu
    have hkl : ku < vars.length := (List.getElem?_eq_some_iff.1 hku).1
    have ku0 : (0 : Int) ≤ (ku : Int) := by omega
    have ku1 : (ku : Int) < (vars.length : Int) := by omega
    obtain ⟨bu, ou, rfl⟩ := hf (by omega)
    obtain ⟨cs, ⟨z0, z1, z2, z3, z4, rfl, hty⟩, hcs⟩ := HV.out.get ku x hku
    obtain ⟨xn, t⟩ := x
    dsimp only at hty hcs
    obtain ⟨x0, x1, x2, x3, x4, x5, x6, x7, x8, rfl, rfl, rfl, rfl, rfl⟩ := lies_form hty
    obtain ⟨_, kt, pt, nt, _, _, _, _, _, _, _, _, _, rfl, e0, e1, e2, _⟩ := lies_at hty
    simp only [Value.int.injEq, Value.string.injEq, true_and] at e0 e1 e2
    subst e0 e1 e2
    have HT : Hid (L = if x0 = 8 then isort ltF (fieldsOf ((findU us x1 x2).getD zD)) else []) := Lib.hid (by rw [← HL.out, HM.out, hun, HB8.out]; rfl)
    have g1 := cell_on H00.out (hcs 1 _ rfl)
    have g2 := cell_on H00.out (hcs 2 _ rfl)
    have g3 := cell_on H00.out (hcs 3 _ rfl)
    have g4 := cell_on H00.out (hcs 4 _ rfl)
    have g5 := cell_on H00.out (hcs 5 _ rfl)
    clear hcs hty hku hun HM HL
    by_cases h8 : x0 = 8
    · subst h8
      rw [if_pos rfl] at HT
      go_wp2_with (first | (go_at_call 31; refine (HREC.out w2 H00.out x1 x2 _ _ _ _ _ _).mono ?_; rintro e w3 ⟨hb3, u3, rfl, ho3⟩; have HB3 := Lib.hid (HBW.out.trans (hb3.mono HBW.out.size)); have HO3 := Lib.hid (ho3.base HBW.out.size); clear hb3 ho3))
      go_ret
      refine ⟨HB3.out, _, rfl, ?_⟩
      rw [HT.out]
      exact HO3.out
    · have e8 : (x0 == 8) = false := by simpa using h8
      rw [if_neg h8] at HT
      clear h8
      go_wp2_with fail
      go_ret
      refine ⟨HBW.out, _, rfl, ?_⟩
      rw [HT.out]
      exact OwnF.nil _ _ _ _
theorem rmeth_any (d : Nat) (w0 w : World) (v vv : Value) (us : List Unt) (vars : List Fld) (k : Int) (p n : ByteArray) (a1 a2 : Option Addr) (n1 c1 n2 c2 : Nat) (h : RowG 4 (LiesU w0 d) w0 v us) (hv : RowG 6 (LiesF w0 d) w0 vv vars) (hb0 : Below w0.heap.size w0 w) (hbd : ∀ p n, (fieldsOf ((findU us p n).getD zD)).length ≤ 1000000) (hbm : ∀ p n, (mOf n (declsO (unitF us p))).length ≤ 1000000) :
    Calls Try.prog 31 #[v, vv, .agg #[.int .i64 k, .string p, .string n, .slice a1 n1 c1, .slice a2 n2 c2]] w (PutPost w0 (d + 1) w w.heap.size (methL us vars k p n)) := by
  by_cases h9 : k = 9
  · subst h9
    exact rmeth_var d w0 w v vv us vars p n a1 a2 n1 c1 n2 c2 h hv hb0 hbd
  · have hM : methL us vars k p n = isort ltF (baseL us k p n) := by unfold methL; rw [if_neg h9]
    rw [hM]
    obtain ⟨bv, ev, rfl, _⟩ := hv.form
    by_cases h5 : k = 5
    · subst h5
      have hB : baseL us 5 p n = mOf n (declsO (unitF us p)) := by unfold baseL; rw [if_pos rfl]
      rw [hB]
      refine (rmeth_ptr d w0 w v us bv _ ev p n a1 a2 n1 c1 n2 c2 h hb0 (hbm p n)).mono ?_
      rintro e w' ⟨h1, u, h2, h3⟩
      exact ⟨h1, u, h2, h3.le (Nat.le_succ _)⟩
    · by_cases h8 : k = 8
      · subst h8
        have hB : baseL us 8 p n = fieldsOf ((findU us p n).getD zD) := by unfold baseL fieldsOf; rw [if_neg (by decide), if_pos rfl]
        rw [hB]
        exact rmeth_iface d w0 w v us bv _ ev p n a1 a2 n1 c1 n2 c2 h hb0 (hbd p n)
      · have hB : baseL us k p n = [] := by unfold baseL; rw [if_neg h5, if_neg h8]
        rw [hB]
        obtain ⟨av, cv, rfl, _⟩ := h.form
        exact rmeth_other (d + 1) w0 w _ _ k p n a1 a2 n1 c1 n2 c2 av bv _ cv _ ev rfl rfl h5 h8 h9
end Go.Proofs.Ytcelpmojhjnggaa
