/- The document's Methods. -/
import Derived.Test.YtcelpmojhjnggaaW3
import Derived.Deep.Cut
import Derived.Deep.DeepCutAuto
import Derived.Deep.RegionHeld3
import Derived.BigRegion
namespace Go.Proofs.Ytcelpmojhjnggaa
open Go Go.RowKit Go.Sort Go.Deep KindsP
set_option maxHeartbeats 4000000
set_option maxRecDepth 100000

theorem OwnF.le {w0 w : World} {d d' B : Nat} {v : Value} {l : List Fld} (h : OwnF w0 d w B v l) (hd : d ≤ d') : OwnF w0 d' w B v l := by
  obtain ⟨cells, h1, h2⟩ := h
  refine ⟨cells, h1, fun k x hk => ?_⟩
  obtain ⟨c0, c1, c2, c3, c4, c5, e0, e1, e2, e3, e4, e5, hl⟩ := h2 k x hk
  exact ⟨c0, c1, c2, c3, c4, c5, e0, e1, e2, e3, e4, e5, hl.le hd⟩
def fieldsOf (x : Dcl) : List Fld := if (x.kind == 4) = true then x.fields else []
theorem rmeth_iface (d : Nat) (w0 w : World) (v : Value) (us : List Unt) (av : Option Addr) (nv cv : Nat) (p n : ByteArray) (a1 a2 : Option Addr) (n1 c1 n2 c2 : Nat) (h : RowG 4 (LiesU w0 d) w0 v us) (hb0 : Below w0.heap.size w0 w) (hbd : (fieldsOf ((findU us p n).getD zD)).length ≤ 1000000) :
    Calls Try.prog 31 #[v, .slice av nv cv, .agg #[.int .i64 8, .string p, .string n, .slice a1 n1 c1, .slice a2 n2 c2]] w (PutPost w0 (d + 1) w w.heap.size (isort ltF (fieldsOf ((findU us p n).getD zD)))) := by
  have HF := Lib.hid (rfind_any d w0 (w.alloc (.cells #[.int .i64 8, .string p, .string n, .slice a1 n1 c1, .slice a2 n2 c2] 31)) v us p n h (hb0.alloc hb0.size _))
  generalize hR : findU us p n = r at HF hbd ⊢
  generalize hX : r.getD zD = x at hbd ⊢
  have HX0 := Lib.hid hX
  have HBD := Lib.hid hbd
  obtain ⟨a, c, rfl, _⟩ := h.form
  have H0 := Lib.hid hb0
  have hw0w := hb0.size
  clear h hb0 hR hX hbd
  go_enter Try.func31, Try.ntmps31
  go_wp2_with (first | (go_at_call 26; refine HF.out.mono ?_; rintro e w2 hp; obtain ⟨hb2, kd, nm, of, vl, x0, x1, x2, x3, x4, x5, x6, x7, x8, xf, nf, cf, rfl, hl⟩ := find_vals hp; refine Hid.out ?_))
  refine Lib.hid ?_
  rw [HX0.out] at hl
  have hkd := liesD_kind hl
  obtain ⟨z0, z1, z2, z3, z4, vf, e, _, hfs⟩ := hl
  have hvf : some (Value.slice xf nf cf) = some vf := congrArg (fun l : List Value => l[9]?) e
  obtain rfl := Option.some.inj hvf
  clear e hvf
  obtain ⟨_, _, ef, hnf, hmf, hff⟩ := hfs.form
  simp only [Value.slice.injEq] at ef
  obtain ⟨rfl, rfl, rfl⟩ := ef
  obtain ⟨fs, hfs0⟩ : ∃ fs, x.fields = fs := ⟨_, rfl⟩
  rw [hfs0] at hfs hnf hff ⊢
  have hlf := Nat.le_trans hnf hmf
  unfold maxLen at hlf
  obtain ⟨hkb, hbw⟩ := alloc_known hb2
  have HFS := Lib.hid hfs
  have HBW := Lib.hid hbw
  have hsz : w.heap.size < w2.heap.size := (Array.getElem?_eq_some_iff.1 hkb).1
  have HB3 := Lib.hid (show Below w.heap.size w (w2.alloc (.cells #[.int .i64 kd, .string nm, .string of, .int .i64 vl, .int .i64 x0, .string x1, .string x2, .slice x3 x4 x5, .slice x6 x7 x8, .slice xf fs.length cf] 41)) from hbw.alloc (Nat.le_of_lt hsz) _)
  clear hp hb2 hfs hkb hbw
  cases e4 : (kd == 4)
  · have HNIL := Lib.hid (show fieldsOf x = [] by unfold fieldsOf; rw [hkd, e4]; rfl)
    clear hkd hfs0
    cases hb : r.isSome
    all_goals
      go_wp2_with fail
      go_loopw [7, 13] (fun lv iv wr => lv = .slice none 0 0 ∧ iv = .int .i64 0 ∧ wr = w2.alloc (.cells #[.int .i64 kd, .string nm, .string of, .int .i64 vl, .int .i64 x0, .string x1, .string x2, .slice x3 x4 x5, .slice x6 x7 x8, .slice xf fs.length cf] 41)) (fun _ _ _ => 0)
      case atStart => exact ⟨rfl, rfl, rfl⟩
      case round =>
        obtain ⟨rfl, rfl, rfl⟩ := hrel
        go_wp2_with fail
        go_ret
        refine ⟨HB3.out, _, rfl, ?_⟩
        rw [HNIL.out]
        exact OwnF.nil _ _ _ _
  · have hb : r.isSome = true := by
      cases r with
      | some _ => rfl
      | none =>
        have hx := HX0.out
        simp only [Option.getD_none] at hx
        rw [← hx] at hkd
        rw [← hkd] at e4
        exact absurd e4 (by decide)
    have HFO := Lib.hid (show fieldsOf x = fs by unfold fieldsOf; rw [hkd, e4]; exact hfs0)
    clear hkd hfs0
    rw [hb]
    clear hb
    go_wp2_with fail
    obtain ⟨w3, hw3⟩ : ∃ w3, w3 = w2.alloc (.cells #[.int .i64 kd, .string nm, .string of, .int .i64 vl, .int .i64 x0, .string x1, .string x2, .slice x3 x4 x5, .slice x6 x7 x8, .slice xf fs.length cf] 41) := ⟨_, rfl⟩
    rw [← hw3] at HB3 ⊢
    have HQ0 := Lib.hid (show w3.cell? ⟨w2.heap.size, 0, none⟩ = some (.int .i64 kd) from (cell_of_row _ _ 0 _ _ _ (by rw [hw3]; exact heap_alloc_new w2 _)).trans rfl)
    have HQ5 := Lib.hid (show w3.cell? ⟨w2.heap.size, 9, none⟩ = some (.slice xf fs.length cf) from (cell_of_row _ _ 9 _ _ _ (by rw [hw3]; exact heap_alloc_new w2 _)).trans rfl)
    clear hw3
    go_loopw [7, 13] (fun lv iv wr => ∃ (k : Nat) (cur : List Fld), k ≤ fs.length ∧ iv = .int .i64 k ∧ Below w3.heap.size w3 wr ∧ Srt ltF cur ∧ OwnF w0 (d + 1) wr w3.heap.size lv cur ∧ Hid (insAll ltF cur (fs.drop k) = isort ltF fs)) (fun _ iv _ => fs.length - (intOf iv).toNat)
    case atStart => exact ⟨0, [], by omega, rfl, Below.refl _ _, List.Pairwise.nil, OwnF.nil _ _ _ _, rfl⟩
    case round =>
      obtain ⟨k, cur, hk, rfl, hb', hsrt, hown, H⟩ := hrel
      have HB := Lib.hid hb'
      have HSRT := Lib.hid hsrt
      have HOWN := Lib.hid hown
      obtain ⟨cells, hoc, _⟩ := hown
      obtain ⟨ao, cap, rfl⟩ := own_shape hoc
      have hw3 := HB3.out.size
      have HBW2 := Lib.hid (HB3.out.trans (hb'.mono hw3))
      have H00 := Lib.hid (H0.out.trans (HBW2.out.mono hw0w))
      have q0 := cell_on hb' HQ0.out
      have q5 := cell_on hb' HQ5.out
      have hsz2 := hb'.size
      clear hb' hsrt hoc
      by_cases hlt : k < fs.length
      · obtain ⟨b, o, rfl⟩ := hff (by omega)
        obtain ⟨cs, ⟨z0, z1, z2, z3, z4, rfl, hty⟩, hcs⟩ := HFS.out.get k fs[k] (by simp)
        have HR := Lib.hid (show insAll ltF (mrg ltF cur [fs[k]]) (fs.drop (k + 1)) = isort ltF fs by rw [← H.out, List.drop_eq_getElem_cons hlt, insAll])
        obtain ⟨y, hy⟩ : ∃ y, fs[k] = y := ⟨_, rfl⟩
        rw [hy] at hty hcs HR
        obtain ⟨fn, t⟩ := y
        dsimp only at hty hcs
        obtain ⟨y0, y1, y2, y3, y4, y5, y6, y7, y8, rfl, rfl, rfl, rfl, rfl⟩ := lies_form hty
        have HX : Hid (LiesF w0 (d + 1) [.string fn, .int .i64 y0, .string y1, .string y2, .slice y3 y4 y5, .slice y6 y7 y8] ⟨fn, t⟩) := Lib.hid ⟨_, _, _, _, _, rfl, hty⟩
        have g0 := cell_on H00.out (hcs 0 _ rfl)
        rw [Nat.add_zero] at g0
        have g1 := cell_on H00.out (hcs 1 _ rfl)
        have g2 := cell_on H00.out (hcs 2 _ rfl)
        have g3 := cell_on H00.out (hcs 3 _ rfl)
        have g4 := cell_on H00.out (hcs 4 _ rfl)
        have g5 := cell_on H00.out (hcs 5 _ rfl)
        have HCL := Lib.hid (show cur.length ≤ 1000000 by
          have := congrArg List.length HR.out
          rw [insAll_length, isort_length, mrg_length] at this
          have h2 := HBD.out
          rw [HFO.out] at h2
          omega)
        clear hcs hty hy H
        go_wp2_with (first | (go_at_call 59; refine (put59_any (d + 1) w0 _ w3.heap.size _ cur ⟨fn, t⟩ y0 y1 y2 y3 y4 y5 y6 y7 y8 (by omega) (by omega) HCL.out HSRT.out HOWN.out HX.out).mono ?_; rintro e w5 ⟨hb5, u5, rfl, ho5⟩; have HB5 := Lib.hid (show Below w3.heap.size w3 w5 from HB.out.trans hb5); have HO5 := Lib.hid ho5; clear hb5 ho5))
        exact ⟨⟨k + 1, _, by omega, by go_num, HB5.out, mrg_srt weakF HSRT.out (List.pairwise_singleton _ _), HO5.out, HR⟩, by simp [intOf]; omega⟩
      · have HR := Lib.hid (show cur = isort ltF fs by rw [← H.out, List.drop_eq_nil_of_le (by omega)]; rfl)
        clear H
        go_wp2_with fail
        go_ret
        refine ⟨HBW2.out, _, rfl, ?_⟩
        rw [HFO.out, ← HR.out]
        exact HOWN.out.base hw3
theorem rmeth_other (d : Nat) (w0 w : World) (v vv : Value) (k : Int) (p n : ByteArray) (a1 a2 : Option Addr) (n1 c1 n2 c2 : Nat) (av bv : Option Addr) (nv cv mv ev : Nat) (hv : v = .slice av nv cv) (hvv : vv = .slice bv mv ev) (h5 : ¬ k = 5) (h8 : ¬ k = 8) (h9 : ¬ k = 9) :
    Calls Try.prog 31 #[v, vv, .agg #[.int .i64 k, .string p, .string n, .slice a1 n1 c1, .slice a2 n2 c2]] w (PutPost w0 d w w.heap.size []) := by
  subst hv hvv
  have e5 : (k == 5) = false := by simpa using h5
  have e8 : (k == 8) = false := by simpa using h8
  have e9 : (k == 9) = false := by simpa using h9
  clear h5 h8 h9
  go_enter Try.func31, Try.ntmps31
  go_wp2_with fail
  go_ret
  exact ⟨(Below.refl _ _).alloc (Nat.le_refl _) _, _, rfl, OwnF.nil _ _ _ _⟩
end Go.Proofs.Ytcelpmojhjnggaa
