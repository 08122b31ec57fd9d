/- The document's Methods. -/
import Derived.Test.YtcelpmojhjnggaaI24
import Derived.Deep.Cut
import Derived.Deep.DeepCutAuto
import Derived.Deep.RegionHeld3
import Derived.BigRegion
namespace Go.Proofs.Ytcelpmojhjnggaa
open Go Go.RowKit Go.Sort Go.Deep KindsP
set_option maxHeartbeats 4000000
set_option maxRecDepth 100000

theorem OwnF.le {w0 w : World} {d d' B : Nat} {v : Value} {l : List Fld} (h : OwnF w0 d w B v l) (hd : d ≤ d') : OwnF w0 d' w B v l := by
  obtain ⟨cells, h1, h2⟩ := h
  refine ⟨cells, h1, fun k x hk => ?_⟩
  obtain ⟨c0, c1, c2, c3, c4, c5, e0, e1, e2, e3, e4, e5, hl⟩ := h2 k x hk
  exact ⟨c0, c1, c2, c3, c4, c5, e0, e1, e2, e3, e4, e5, hl.le hd⟩
def fieldsOf (x : Dcl) : List Fld := if (x.kind == 4) = true then x.fields else []
theorem rmeth_iface (d : Nat) (w0 w : World) (v : Value) (us : List Unt) (av : Option Addr) (nv cv : Nat) (p n : ByteArray) (a1 a2 : Option Addr) (n1 c1 n2 c2 : Nat) (h : RowG 4 (LiesU w0 d) w0 v us) (hb0 : Below w0.heap.size w0 w) (hbd : (fieldsOf ((findU us p n).getD zD)).length ≤ 1000000) :
    Calls Try.prog 31 #[v, .slice av nv cv, .agg #[.int .i64 8, .string p, .string n, .slice a1 n1 c1, .slice a2 n2 c2]] w (PutPost w0 (d + 1) w w.heap.size (isort ltF (fieldsOf ((findU us p n).getD zD)))) := by
  have HF := Lib.hid (rfind_any d w0 (w.alloc (.cells #[.int .i64 8, .string p, .string n, .slice a1 n1 c1, .slice a2 n2 c2] 31)) v us p n h (hb0.alloc hb0.size _))
  generalize hR : findU us p n = r at HF hbd ⊢
  generalize hX : r.getD zD = x at hbd ⊢
  have HX0 := Lib.hid hX
  have HBD := Lib.hid hbd
  obtain ⟨a, c, rfl, _⟩ := h.form
  have H0 := Lib.hid hb0
  have hw0w := hb0.size
  clear h hb0 hR hX hbd
  go_enter Try.func31, Try.ntmps31
  go_wp2_with (first | (go_at_call 26; refine HF.out.mono ?_; rintro e w2 hp; obtain ⟨hb2, kd, nm, of, vl, x0, x1, x2, x3, x4, x5, x6, x7, x8, xf, nf, cf, rfl, hl⟩ := find_vals hp; refine Hid.out ?_))
  refine Lib.hid ?_
  rw [HX0.out] at hl
  have hkd := liesD_kind hl
  obtain ⟨z0, z1, z2, z3, z4, vf, e, _, hfs⟩ := hl
  have hvf : some (Value.slice xf nf cf) = some vf := congrArg (fun l : List Value => l[9]?) e
  obtain rfl := Option.some.inj hvf
  clear e hvf
  obtain ⟨_, _, ef, hnf, hmf, hff⟩ := hfs.form
  simp only [Value.slice.injEq] at ef
  obtain ⟨rfl, rfl, rfl⟩ := ef
  obtain ⟨fs, hfs0⟩ : ∃ fs, x.fields = fs := ⟨_, rfl⟩
  rw [hfs0] at hfs hnf hff ⊢
  have hlf := Nat.le_trans hnf hmf
  unfold maxLen at hlf
  obtain ⟨hkb, hbw⟩ := alloc_known hb2
  have HFS := Lib.hid hfs
  have HBW := Lib.hid hbw
  have hsz : w.heap.size < w2.heap.size := (Array.getElem?_eq_some_iff.1 hkb).1
  have HB3 := Lib.hid (show Below w.heap.size w (w2.alloc (.cells #[.int .i64 kd, .string nm, .string of, .int .i64 vl, .int .i64 x0, .string x1, .string x2, .slice x3 x4 x5, .slice x6 x7 x8, .slice xf fs.length cf] 41)) from hbw.alloc (Nat.le_of_lt hsz) _)
  clear hp hb2 hfs hkb hbw
  cases e4 : (kd == 4)
  · have HNIL := Lib.hid (show fieldsOf x = [] by unfold fieldsOf; rw [hkd, e4]; rfl)
    clear hkd hfs0
    cases hb : r.isSome
    all_goals
      go_wp2_with fail
      go_loopw [7, 13] (fun lv iv wr => lv = .slice none 0 0 ∧ iv = .int .i64 0 ∧ wr = w2.alloc (.cells #[.int .i64 kd, .string nm, .string of, .int .i64 vl, .int .i64 x0, .string x1, .string x2, .slice x3 x4 x5, .slice x6 x7 x8, .slice xf fs.length cf] 41)) (fun _ _ _ => 0)
      case atStart => exact ⟨rfl, rfl, rfl⟩
      case round =>
        obtain ⟨rfl, rfl, rfl⟩ := hrel
        go_wp2_with fail
        go_ret
        refine ⟨HB3.out, _, rfl, ?_⟩
        rw [HNIL.out]
        exact OwnF.nil _ _ _ _
  · have hb : r.isSome = true := by
      cases r with
      | some _ => rfl
      | none =>
        have hx := HX0.out
        simp only [Option.getD_none] at hx
        rw [← hx] at hkd
        rw [← hkd] at e4
        exact absurd e4 (by decide)
    have HFO := Lib.hid (show fieldsOf x = fs by unfold fieldsOf; rw [hkd, e4]; exact hfs0)
    clear hkd hfs0
    rw [hb]
    clear hb
    go_wp2_with fail
    obtain ⟨w3, hw3⟩ : ∃ w3, w3 = w2.alloc (.cells #[.int .i64 kd, .string nm, .string of, .int .i64 vl, .int .i64 x0, .string x1, .string x2, .slice x3 x4 x5, .slice x6 x7 x8, .slice xf fs.length cf] 41) := ⟨_, rfl⟩
    rw [← hw3] at HB3 ⊢
    have HQ0 := Lib.hid (show w3.cell? ⟨w2.heap.size, 0, none⟩ = some (.int .i64 kd) from (cell_of_row _ _ 0 _ _ _ (by rw [hw3]; exact heap_alloc_new w2 _)).trans rfl)
    have HQ5 := Lib.hid (show w3.cell? ⟨w2.heap.size, 9, none⟩ = some (.slice xf fs.length cf) from (cell_of_row _ _ 9 _ _ _ (by rw [hw3]; exact heap_alloc_new w2 _)).trans rfl)
    clear hw3
    go_loopw [7, 13] (fun lv iv wr => ∃ (k : Nat) (cur : List Fld), k ≤ fs.length ∧ iv = .int .i64 k ∧ Below w3.heap.size w3 wr ∧ Srt ltF cur ∧ OwnF w0 (d + 1) wr w3.heap.size lv cur ∧ Hid (insAll ltF cur (fs.drop k) = isort ltF fs)) (fun _ iv _ => fs.length - (intOf iv).toNat)
    case atStart => exact ⟨0, [], by omega, rfl, Below.refl _ _, List.Pairwise.nil, OwnF.nil _ _ _ _, rfl⟩
    case round =>
      obtain ⟨k, cur, hk, rfl, hb', hsrt, hown, H⟩ := hrel
      have HB := Lib.hid hb'
      have HSRT := Lib.hid hsrt
      have HOWN := Lib.hid hown
      obtain ⟨cells, hoc, _⟩ := hown
      obtain ⟨ao, cap, rfl⟩ := own_shape hoc
      have hw3 := HB3.out.size
      have HBW2 := Lib.hid (HB3.out.trans (hb'.mono hw3))
      have H00 := Lib.hid (H0.out.trans (HBW2.out.mono hw0w))
      have q0 := cell_on hb' HQ0.out
      have q5 := cell_on hb' HQ5.out
      have hsz2 := hb'.size
      clear hb' hsrt hoc
      by_cases hlt : k < fs.length
      · obtain ⟨b, o, rfl⟩ := hff (by omega)
        obtain ⟨cs, ⟨z0, z1, z2, z3, z4, rfl, hty⟩, hcs⟩ := HFS.out.get k fs[k] (by simp)
        have HR := Lib.hid (show insAll ltF (mrg ltF cur [fs[k]]) (fs.drop (k + 1)) = isort ltF fs by rw [← H.out, List.drop_eq_getElem_cons hlt, insAll])
        obtain ⟨y, hy⟩ : ∃ y, fs[k] = y := ⟨_, rfl⟩
        rw [hy] at hty hcs HR
        obtain ⟨fn, t⟩ := y
        dsimp only at hty hcs
        obtain ⟨y0, y1, y2, y3, y4, y5, y6, y7, y8, rfl, rfl, rfl, rfl, rfl⟩ := lies_form hty
        have HX : Hid (LiesF w0 (d + 1) [.string fn, .int .i64 y0, .string y1, .string y2, .slice y3 y4 y5, .slice y6 y7 y8] ⟨fn, t⟩) := Lib.hid ⟨_, _, _, _, _, rfl, hty⟩
        have g0 := cell_on H00.out (hcs 0 _ rfl)
        rw [Nat.add_zero] at g0
        have g1 := cell_on H00.out (hcs 1 _ rfl)
        have g2 := cell_on H00.out (hcs 2 _ rfl)
        have g3 := cell_on H00.out (hcs 3 _ rfl)
        have g4 := cell_on H00.out (hcs 4 _ rfl)
        have g5 := cell_on H00.out (hcs 5 _ rfl)
        have HCL := Lib.hid (show cur.length ≤ 1000000 by
          have := congrArg List.length HR.out
          rw [insAll_length, isort_length, mrg_length] at this
          have h2 := HBD.out
          rw [HFO.out] at h2
          omega)
        clear hcs hty hy H
        go_wp2_with (first | (go_at_call 59; refine (put59_any (d + 1) w0 _ w3.heap.size _ cur ⟨fn, t⟩ y0 y1 y2 y3 y4 y5 y6 y7 y8 (by omega) (by omega) HCL.out HSRT.out HOWN.out HX.out).mono ?_; rintro e w5 ⟨hb5, u5, rfl, ho5⟩; have HB5 := Lib.hid (show Below w3.heap.size w3 w5 from HB.out.trans hb5); have HO5 := Lib.hid ho5; clear hb5 ho5))
        exact ⟨⟨k + 1, _, by omega, by go_num, HB5.out, mrg_srt weakF HSRT.out (List.pairwise_singleton _ _), HO5.out, HR⟩, by simp [intOf]; omega⟩
      · have HR := Lib.hid (show cur = isort ltF fs by rw [← H.out, List.drop_eq_nil_of_le (by omega)]; rfl)
        clear H
        go_wp2_with fail
        go_ret
        refine ⟨HBW2.out, _, rfl, ?_⟩
        rw [HFO.out, ← HR.out]
        exact HOWN.out.base hw3
theorem rmeth_other (d : Nat) (w0 w : World) (v vv : Value) (k : Int) (p n : ByteArray) (a1 a2 : Option Addr) (n1 c1 n2 c2 : Nat) (av bv : Option Addr) (nv cv mv ev : Nat) (hv : v = .slice av nv cv) (hvv : vv = .slice bv mv ev) (h5 : ¬ k = 5) (h8 : ¬ k = 8) (h9 : ¬ k = 9) :
    Calls Try.prog 31 #[v, vv, .agg #[.int .i64 k, .string p, .string n, .slice a1 n1 c1, .slice a2 n2 c2]] w (PutPost w0 d w w.heap.size []) := by
  subst hv hvv
  have e5 : (k == 5) = false := by simpa using h5
  have e8 : (k == 8) = false := by simpa using h8
  have e9 : (k == 9) = false := by simpa using h9
  clear h5 h8 h9
  go_enter Try.func31, Try.ntmps31
  go_wp2_with fail
  go_ret
  exact ⟨(Below.refl _ _).alloc (Nat.le_refl _) _, _, rfl, OwnF.nil _ _ _ _⟩
end Go.Proofs.Ytcelpmojhjnggaa

/- The document's Methods. -/
namespace Go.Proofs.Ytcelpmojhjnggaa
open Go Go.RowKit Go.Sort Go.Deep KindsP
set_option maxHeartbeats 4000000
set_option maxRecDepth 100000

theorem rmeth_var (d : Nat) (w0 w : World) (v vv : Value) (us : List Unt) (vars : List Fld) (p n : ByteArray) (a1 a2 : Option Addr) (n1 c1 n2 c2 : Nat) (h : RowG 4 (LiesU w0 d) w0 v us) (hv : RowG 6 (LiesF w0 d) w0 vv vars) (hb0 : Below w0.heap.size w0 w) (hbd : ∀ p n, (fieldsOf ((findU us p n).getD zD)).length ≤ 1000000) :
    Calls Try.prog 31 #[v, vv, .agg #[.int .i64 9, .string p, .string n, .slice a1 n1 c1, .slice a2 n2 c2]] w (PutPost w0 (d + 1) w w.heap.size (methL us vars 9 p n)) := by
  have HK := Lib.hid (known60_any d w0 (w.alloc (.cells #[.int .i64 9, .string p, .string n, .slice a1 n1 c1, .slice a2 n2 c2] 31)) vv vars n hv (hb0.alloc hb0.size _))
  obtain ⟨L, hL⟩ : ∃ L, methL us vars 9 p n = L := ⟨_, rfl⟩
  have HL := Lib.hid hL
  rw [hL]
  have HM := Lib.hid (show methL us vars 9 p n = (if Ty.kd (tyO (findF vars n)) = 8 then isort ltF (baseL us 8 (Ty.pk (tyO (findF vars n))) (Ty.nm (tyO (findF vars n)))) else []) by unfold methL; rw [if_pos rfl])
  have HB8 := Lib.hid (fun p n => (show baseL us 8 p n = fieldsOf ((findU us p n).getD zD) by unfold baseL fieldsOf; rw [if_neg (by decide), if_pos rfl]))
  have HREC := Lib.hid (fun W (hb : Below w0.heap.size w0 W) p n a1 a2 n1 c1 n2 c2 => rmeth_iface d w0 W v us none 0 0 p n a1 a2 n1 c1 n2 c2 h hb (hbd p n))
  obtain ⟨a, c, rfl, _⟩ := h.form
  obtain ⟨b, e, rfl, hcc, hcm, hf⟩ := hv.form
  have hll := Nat.le_trans hcc hcm
  unfold maxLen at hll
  have HV := Lib.hid hv
  have H0 := Lib.hid hb0
  clear h hv hb0 hL
  go_enter Try.func31, Try.ntmps31
  go_wp2_with (first | (go_at_call 60; refine HK.out.mono ?_; rintro e w2 ⟨⟨iu, rfl, hiu⟩, hw2⟩; have HW2 := Lib.hid hw2; clear hw2; refine Hid.out ?_))
  refine Lib.hid ?_
  have HBW : Hid (Below w.heap.size w w2) := Lib.hid (by rw [HW2.out]; exact (Below.refl _ _).alloc (Nat.le_refl _) _)
  have H00 := Lib.hid (H0.out.trans (HBW.out.mono H0.out.size))
  clear HW2 HK
  unfold KnownIs at hiu
  cases hun : findF vars n with
  | none =>
    rw [hun] at hiu
    obtain rfl : iu = -1 := hiu
    have HNIL := Lib.hid (show L = [] by rw [← HL.out, HM.out, hun]; rfl)
    clear hun
    go_wp2_with fail
    go_ret
    refine ⟨HBW.out, _, rfl, ?_⟩
    rw [HNIL.out]
    exact OwnF.nil _ _ _ _
  | some x =>
    rw [hun] at hiu
    obtain ⟨ku, rfl, hku⟩ := hiu
    have hkl : ku < vars.length := (List.getElem?_eq_some_iff.1 hku).1
    have ku0 : (0 : Int) ≤ (ku : Int) := by omega
    have ku1 : (ku : Int) < (vars.length : Int) := by omega
    obtain ⟨bu, ou, rfl⟩ := hf (by omega)
    obtain ⟨cs, ⟨z0, z1, z2, z3, z4, rfl, hty⟩, hcs⟩ := HV.out.get ku x hku
    obtain ⟨xn, t⟩ := x
    dsimp only at hty hcs
    obtain ⟨x0, x1, x2, x3, x4, x5, x6, x7, x8, rfl, rfl, rfl, rfl, rfl⟩ := lies_form hty
    obtain ⟨_, kt, pt, nt, _, _, _, _, _, _, _, _, _, rfl, e0, e1, e2, _⟩ := lies_at hty
    simp only [Value.int.injEq, Value.string.injEq, true_and] at e0 e1 e2
    subst e0 e1 e2
    have HT : Hid (L = if x0 = 8 then isort ltF (fieldsOf ((findU us x1 x2).getD zD)) else []) := Lib.hid (by rw [← HL.out, HM.out, hun, HB8.out]; rfl)
    have g1 := cell_on H00.out (hcs 1 _ rfl)
    have g2 := cell_on H00.out (hcs 2 _ rfl)
    have g3 := cell_on H00.out (hcs 3 _ rfl)
    have g4 := cell_on H00.out (hcs 4 _ rfl)
    have g5 := cell_on H00.out (hcs 5 _ rfl)
    clear hcs hty hku hun HM HL
    by_cases h8 : x0 = 8
    · subst h8
      rw [if_pos rfl] at HT
      go_wp2_with (first | (go_at_call 31; refine (HREC.out w2 H00.out x1 x2 _ _ _ _ _ _).mono ?_; rintro e w3 ⟨hb3, u3, rfl, ho3⟩; have HB3 := Lib.hid (HBW.out.trans (hb3.mono HBW.out.size)); have HO3 := Lib.hid (ho3.base HBW.out.size); clear hb3 ho3))
      go_ret
      refine ⟨HB3.out, _, rfl, ?_⟩
      rw [HT.out]
      exact HO3.out
    · have e8 : (x0 == 8) = false := by simpa using h8
      rw [if_neg h8] at HT
      clear h8
      go_wp2_with fail
      go_ret
      refine ⟨HBW.out, _, rfl, ?_⟩
      rw [HT.out]
      exact OwnF.nil _ _ _ _
theorem rmeth_any (d : Nat) (w0 w : World) (v vv : Value) (us : List Unt) (vars : List Fld) (k : Int) (p n : ByteArray) (a1 a2 : Option Addr) (n1 c1 n2 c2 : Nat) (h : RowG 4 (LiesU w0 d) w0 v us) (hv : RowG 6 (LiesF w0 d) w0 vv vars) (hb0 : Below w0.heap.size w0 w) (hbd : ∀ p n, (fieldsOf ((findU us p n).getD zD)).length ≤ 1000000) (hbm : ∀ p n, (mOf n (declsO (unitF us p))).length ≤ 1000000) :
    Calls Try.prog 31 #[v, vv, .agg #[.int .i64 k, .string p, .string n, .slice a1 n1 c1, .slice a2 n2 c2]] w (PutPost w0 (d + 1) w w.heap.size (methL us vars k p n)) := by
  by_cases h9 : k = 9
  · subst h9
    exact rmeth_var d w0 w v vv us vars p n a1 a2 n1 c1 n2 c2 h hv hb0 hbd
  · have hM : methL us vars k p n = isort ltF (baseL us k p n) := by unfold methL; rw [if_neg h9]
    rw [hM]
    obtain ⟨bv, ev, rfl, _⟩ := hv.form
    by_cases h5 : k = 5
    · subst h5
      have hB : baseL us 5 p n = mOf n (declsO (unitF us p)) := by unfold baseL; rw [if_pos rfl]
      rw [hB]
      refine (rmeth_ptr d w0 w v us bv _ ev p n a1 a2 n1 c1 n2 c2 h hb0 (hbm p n)).mono ?_
      rintro e w' ⟨h1, u, h2, h3⟩
      exact ⟨h1, u, h2, h3.le (Nat.le_succ _)⟩
    · by_cases h8 : k = 8
      · subst h8
        have hB : baseL us 8 p n = fieldsOf ((findU us p n).getD zD) := by unfold baseL fieldsOf; rw [if_neg (by decide), if_pos rfl]
        rw [hB]
        exact rmeth_iface d w0 w v us bv _ ev p n a1 a2 n1 c1 n2 c2 h hb0 (hbd p n)
      · have hB : baseL us k p n = [] := by unfold baseL; rw [if_neg h5, if_neg h8]
        rw [hB]
        obtain ⟨av, cv, rfl, _⟩ := h.form
        exact rmeth_other (d + 1) w0 w _ _ k p n a1 a2 n1 c1 n2 c2 av bv _ cv _ ev rfl rfl h5 h8 h9
end Go.Proofs.Ytcelpmojhjnggaa

/- The document's Methods. -/
namespace Go.Proofs.Ytcelpmojhjnggaa
open Go Go.RowKit Go.Sort Go.Deep KindsP
set_option maxHeartbeats 4000000
set_option maxRecDepth 100000

theorem eq39n (w : World) (c : Nat) : (binOp .eql 39 (.slice none 0 c) (.slice none 0 0)).run Try.prog w = .ok (.bool true) w := by kernel_rfl
theorem eq39s (w : World) (ad : Addr) (n c : Nat) : (binOp .eql 39 (.slice (some ad) n c) (.slice none 0 0)).run Try.prog w = .ok (.bool false) w := by kernel_rfl
theorem rowG_news (w0 : World) (d b o m c : Nat) (l : List Fld) (h : RowG 6 (LiesF w0 d) w0 (.slice (some ⟨b, o, none⟩) m c) l) : ∃ news : List Value, news.length = l.length * 6 ∧ (∀ j u, news[j]? = some u → w0.cell? ⟨b, o + j, none⟩ = some u) ∧ (∀ u ∈ news, u.oneCell' = true) ∧ FCells w0 d news l := by
  have key : ∀ k, k ≤ l.length → ∃ news : List Value, news.length = k * 6 ∧ (∀ j u, news[j]? = some u → w0.cell? ⟨b, o + j, none⟩ = some u) ∧ (∀ u ∈ news, u.oneCell' = true) ∧ FCells w0 d news (l.take k) := by
    intro k
    induction k with
    | zero => intro _; exact ⟨[], rfl, by simp, by simp, fun k x hx => by simp at hx⟩
    | succ k ih =>
      intro hk
      obtain ⟨news, e1, e2, e3, e4⟩ := ih (by omega)
      obtain ⟨cs, ⟨z0, z1, z2, z3, z4, rfl, hty⟩, hcs⟩ := h.get k l[k] (by simp)
      obtain ⟨x, hx⟩ : ∃ x, l[k] = x := ⟨_, rfl⟩
      rw [hx] at hty hcs
      obtain ⟨x0, x1, x2, x3, x4, x5, x6, x7, x8, rfl, rfl, rfl, rfl, rfl⟩ := lies_form hty
      refine ⟨news ++ [.string x.name, .int .i64 x0, .string x1, .string x2, .slice x3 x4 x5, .slice x6 x7 x8], by rw [List.length_append, e1]; simp; omega, fun j u hu => ?_, fun u hu => ?_, ?_⟩
      · by_cases hj : j < news.length
        · rw [List.getElem?_append_left hj] at hu; exact e2 j u hu
        · rw [List.getElem?_append_right (by omega)] at hu
          have := hcs (j - news.length) u hu
          rw [show o + k * 6 + (j - news.length) = o + j by omega] at this
          exact this
      · rcases List.mem_append.1 hu with hu | hu
        · exact e3 u hu
        · simp only [List.mem_cons, List.not_mem_nil, or_false] at hu
          rcases hu with rfl | rfl | rfl | rfl | rfl | rfl <;> simp [Value.oneCell']
      · rw [List.take_add_one, List.getElem?_eq_getElem (by omega), hx]
        exact e4.snoc (by rw [e1, List.length_take]; congr 1; omega) _ _ _ _ _ _ x ⟨_, _, _, _, _, rfl, hty⟩
  obtain ⟨news, e1, e2, e3, e4⟩ := key l.length (Nat.le_refl _)
  rw [List.take_length] at e4
  exact ⟨news, e1, e2, e3, e4⟩
theorem rowG_news' (w0 : World) (d m c : Nat) (ad : Addr) (l : List Fld) (h : RowG 6 (LiesF w0 d) w0 (.slice (some ad) m c) l) : ∃ news : List Value, news.length = l.length * 6 ∧ (∀ j u, news[j]? = some u → w0.cell? (ad.add j) = some u) ∧ (∀ u ∈ news, u.oneCell' = true) ∧ FCells w0 d news l := by
  by_cases hl : l = []
  · subst hl; exact ⟨[], rfl, by simp, by simp, fun k x hx => by simp at hx⟩
  · have key : ∃ b o, ad = ⟨b, o, none⟩ := by
      obtain ⟨a, c', h1, _, _, h4⟩ := h
      rcases h4 with h4 | ⟨b, o, h5, _⟩
      · exact absurd h4 hl
      · rw [h5] at h1
        simp only [Value.slice.injEq, Option.some.injEq] at h1
        exact ⟨b, o, h1.1⟩
    obtain ⟨b, o, rfl⟩ := key
    obtain ⟨news, e1, e2, e3, e4⟩ := rowG_news w0 d b o m c l h
    exact ⟨news, e1, fun j u hu => by rw [addr_add]; exact e2 j u hu, e3, e4⟩
theorem clone53_any (d : Nat) (w0 w : World) (v : Value) (l : List Fld) (h : RowG 6 (LiesF w0 d) w0 v l) (hb0 : Below w0.heap.size w0 w) (hn : l.length ≤ 1000000) : Calls Try.prog 53 #[v] w (PutPost w0 d w w.heap.size l) := by
  obtain ⟨i9, hi9, hz90, hz91, hz92⟩ := info_parts Try.info52'
  obtain ⟨a, c, rfl, hcc, hcm, hf⟩ := h.form
  cases a with
  | none =>
    have hl : l = [] := by
      cases l with
      | nil => rfl
      | cons x xs => obtain ⟨b, o, e⟩ := hf (by simp); cases e
    subst hl
    have heq := eq39n
    clear h hf hcc
    go_enter Try.func53, Try.ntmps53
    go_wp2_with fail
    go_ret
    exact ⟨Below.refl _ _, _, rfl, OwnF.nil _ _ _ _⟩
  | some ad =>
    obtain ⟨news, e1, e2, e3, e4⟩ := rowG_news' w0 d _ c ad l h
    have E2 := Lib.hid e2
    have E3 := Lib.hid e3
    have E4 := Lib.hid e4
    have E1 := Lib.hid e1
    have H0 := Lib.hid hb0
    have hw0w := hb0.size
    have heq := eq39s
    have hol : (w.alloc (.cells #[] 52)).ownsRow w.heap.size 52 6 (.slice (some ⟨w.heap.size, 0, none⟩) 0 0) 0 [] := ⟨rfl, .inr ⟨w.heap.size, 0, #[], rfl, Nat.le_refl _, heap_alloc_new w _, Nat.le_refl _, by unfold maxLen; omega, rfl, rfl⟩⟩
    have HOL := Lib.hid hol
    have HNW := Lib.hid (fun j u (hu : news[j]? = some u) => cell_on (H0.out.alloc hw0w (.cells #[] 52)) (E2.out j u hu))
    clear h hf e1 e2 e3 e4 hb0 hol
    go_enter Try.func53, Try.ntmps53
    go_wp2_with (first | (at_builtin; refine wpList_append_own _ rfl (.tmp 5) (.tmp 6) 39 rfl w.heap.size 52 i9 _ 6 104 Try.underlying39 hi9 hz90 hz91 hz92 rfl (by decide) _ 0 [] rfl HOL.out ad l.length c news rfl E1.out HNW.out E3.out (by unfold maxLen; omega) (by omega) (by simp) ?_; intro v' w3 hown3 hgrow hnil; have HO3 := Lib.hid hown3; have HG : Hid ((w.alloc (.cells #[] 52)).grownBy w3 (some w.heap.size)) := hgrow; clear hown3 hgrow hnil))
    obtain ⟨ao, cp, rfl⟩ := own_shape HO3.out
    go_ret
    refine ⟨((Below.refl _ _).alloc (Nat.le_refl _) _).grown HG.out (by simp) (fun k hk => by cases hk; exact Nat.le_refl _), _, rfl, news, ?_, E4.out⟩
    have := HO3.out
    rw [Nat.zero_add, List.nil_append] at this
    show w3.ownsRow w.heap.size 52 6 (.slice ao (0 + l.length) cp) l.length news
    rw [Nat.zero_add]
    exact this
end Go.Proofs.Ytcelpmojhjnggaa
