/- The document's Methods. -/
import Derived.Test.YtcelpmojhjnggaaX6
import Derived.Test.YtcelpmojhjnggaaL0
import Derived.Deep.Cut
import Derived.Deep.DeepCutAuto
import Derived.Deep.RegionHeld3
import Derived.BigRegion
namespace Go.Proofs.Ytcelpmojhjnggaa
open Go Go.RowKit Go.Sort Go.Deep KindsP
set_option maxHeartbeats 4000000
set_option maxRecDepth 100000

theorem OwnF.rowG {w0 w : World} {d B : Nat} {v : Value} {l : List Fld} (h : OwnF w0 d w B v l) (hB : w0.heap.size ≤ B) : RowG 6 (LiesF w0 d) w v l := by
  obtain ⟨cells, hoc, hcells⟩ := id h
  rcases hoc.2 with ⟨rfl, h2⟩ | ⟨g, cp, cur, rfl, _⟩
  · obtain rfl := List.length_eq_zero_iff.1 h2
    exact RowG.nil _ _ _
  · obtain ⟨_, _, hnc, hcm, hrow, _⟩ := h.row hB
    exact hrow.rowG hnc hcm
theorem KindsMethods_x (d D : Nat) (w : World) (v vv : Value) (us : List Unt) (vars : List Fld) (k : Int) (p n : ByteArray) (a1 a2 : Option Addr) (n1 c1 n2 c2 : Nat) (t : Ty) (h : RowG 4 (LiesU w d) w v us) (hv : RowG 6 (LiesF w d) w vv vars) (ht : Lies w D (.agg #[.int .i64 k, .string p, .string n, .slice a1 n1 c1, .slice a2 n2 c2]) t) (hbd : ∀ k p n, (baseL us k p n).length ≤ 1000000) (hst : ∀ k p n, ∀ x ∈ baseL us k p n, sizT x.ty ≤ 1000000000) :
    Calls Try.prog 8 #[v, vv, .agg #[.int .i64 k, .string p, .string n, .slice a1 n1 c1, .slice a2 n2 c2]] w fun e w' => e = .returned (.bool true) ∧ Below w.heap.size w w' := by
  have hb1 : Below w.heap.size w (w.alloc (.cells #[.int .i64 k, .string p, .string n, .slice a1 n1 c1, .slice a2 n2 c2] 31)) := (Below.refl _ _).alloc (Nat.le_refl _) _
  have HU := Lib.hid (units_some d (w.alloc (.cells #[.int .i64 k, .string p, .string n, .slice a1 n1 c1, .slice a2 n2 c2] 31)) v us (h.mono (LiesU.below hb1 d) hb1))
  have HFI := Lib.hid (fun W (hb : Below w.heap.size w W) => fields_some d W vv vars (hv.mono (LiesF.below hb d) hb))
  have HGR := Lib.hid (fun W (hb : Below w.heap.size w W) => great_any D (W.alloc (.cells #[.int .i64 k, .string p, .string n, .slice a1 n1 c1, .slice a2 n2 c2] 31)) (.slice (some ⟨W.heap.size, 0, none⟩) 1 1) [t] (row_one (heap_alloc_new W _) (Lies.below (hb.alloc hb.size _) _ _ _ ht)))
  have HME := Lib.hid (fun W (hb : Below w.heap.size w W) => meth_any d w W v vv us vars k p n a1 a2 n1 c1 n2 c2 h hv hb hbd hst)
  have HRM := Lib.hid (fun W (hb : Below w.heap.size w W) => rmeth_any d w W v vv us vars k p n a1 a2 n1 c1 n2 c2 h hv hb (fun p n => by have := hbd 8 p n; unfold baseL at this; rw [if_neg (by decide), if_pos rfl] at this; exact this) (fun p n => by have := hbd 5 p n; unfold baseL at this; rw [if_pos rfl] at this; exact this))
  generalize methL us vars k p n = L at HME HRM
  have HBX := Lib.hid (fun (W : World) (hb : Below (w.alloc (.cells #[.int .i64 k, .string p, .string n, .slice a1 n1 c1, .slice a2 n2 c2] 31)).heap.size (w.alloc (.cells #[.int .i64 k, .string p, .string n, .slice a1 n1 c1, .slice a2 n2 c2] 31)) W) => (show (W.cell? ⟨w.heap.size, 0, none⟩ = some (.int .i64 k) ∧ W.cell? ⟨w.heap.size, 1, none⟩ = some (.string p) ∧ W.cell? ⟨w.heap.size, 2, none⟩ = some (.string n) ∧ W.cell? ⟨w.heap.size, 3, none⟩ = some (.slice a1 n1 c1) ∧ W.cell? ⟨w.heap.size, 4, none⟩ = some (.slice a2 n2 c2)) ∧ Below w.heap.size w W from by
    obtain ⟨hk, hbw⟩ := alloc_known hb
    exact ⟨⟨(cell_of_row _ _ 0 _ _ _ hk).trans rfl, (cell_of_row _ _ 1 _ _ _ hk).trans rfl, (cell_of_row _ _ 2 _ _ _ hk).trans rfl, (cell_of_row _ _ 3 _ _ _ hk).trans rfl, (cell_of_row _ _ 4 _ _ _ hk).trans rfl⟩, hbw⟩))
  have HS1 := Lib.hid (show w.heap.size ≤ (w.alloc (.cells #[.int .i64 k, .string p, .string n, .slice a1 n1 c1, .slice a2 n2 c2] 31)).heap.size by simp)
  obtain ⟨av, cv, rfl, _⟩ := h.form
  obtain ⟨bv, ev, rfl, _⟩ := hv.form
  clear h hv ht hb1 hbd hst
  cases hg : greatB [t]
  all_goals
    have HGB := Lib.hid hg
    clear hg
    go_enter Try.func8, Try.ntmps8
    go_wp2_with (first | (go_at_call 24; refine HU.out.mono ?_; rintro e w1 ⟨⟨b, rfl⟩, hb1⟩; refine Hid.out ?_))
    refine Lib.hid ?_
    obtain ⟨⟨q0, q1, q2, q3, q4⟩, hbw1⟩ := HBX.out w1 hb1
    have HN1 := Lib.hid hb1
    have HB1 := Lib.hid hbw1
    clear hb1 hbw1
    cases b
    · go_wp2_with (first | (go_at_call 28; refine (HFI.out w1 HB1.out).mono ?_; rintro e w2 ⟨⟨b, rfl⟩, hb2⟩; refine Hid.out ?_))
      refine Lib.hid ?_
      have HN2 := Lib.hid (HN1.out.trans (hb2.mono HN1.out.size))
      clear q0 q1 q2 q3 q4 hb2
      obtain ⟨⟨q0, q1, q2, q3, q4⟩, hbw2⟩ := HBX.out w2 HN2.out
      have HB2 := Lib.hid hbw2
      clear hbw2
      cases b
      · go_wp2_with (first | (go_at_call 12; refine (HGR.out w2 HB2.out).mono ?_; rintro e w3 ⟨rfl, hb3⟩; rw [HGB.out]; refine Hid.out ?_))
        refine Lib.hid ?_
        have HN3 := Lib.hid ((HN2.out.alloc HN2.out.size _).trans (hb3.mono (HN2.out.alloc HN2.out.size _).size))
        clear q0 q1 q2 q3 q4 hb3
        obtain ⟨⟨q0, q1, q2, q3, q4⟩, hbw3⟩ := HBX.out w3 HN3.out
        have HB3 := Lib.hid hbw3
        clear hbw3
        first
          | (go_wp2_with (first | (go_at_call 13; refine (awake_any _).mono ?_; rintro e w9 ⟨rfl, hb9⟩; have HB9 := Lib.hid (HB3.out.trans (hb9.mono HB3.out.size)); clear hb9)); go_ret; exact ⟨rfl, HB9.out⟩)
          | (go_wp2_with (first | (go_at_call 29; refine (HME.out w3 HB3.out).mono ?_; rintro e w4 ⟨hb4, u4, rfl, hr4⟩; obtain ⟨_, _, rfl, _⟩ := id hr4.form; have HR4 := Lib.hid hr4; have HN4 := Lib.hid (HN3.out.trans (hb4.mono HN3.out.size)); obtain ⟨⟨s0, s1, s2, s3, s4⟩, hbw4⟩ := HBX.out w4 (HN3.out.trans (hb4.mono HN3.out.size)); have HB4 := Lib.hid hbw4; clear hb4 hr4 hbw4) | (go_at_call 31; refine (HRM.out w4 HB4.out).mono ?_; rintro e w5 ⟨hb5, u5, rfl, ho5⟩; have HR5 := Lib.hid (ho5.rowG HB4.out.size); have HB54 := Lib.hid hb5; have HB5 := Lib.hid (HB4.out.trans (hb5.mono HB4.out.size)); clear hb5 ho5) | (go_at_call 30; refine (SameFields_same (d + 1) (d + 1) w5 _ _ L ((HR4.out.mono (fun _ _ h => h.lies) (Below.refl _ _)).mono (LiesF.below HB54.out (d + 1)) HB54.out) (HR5.out.mono (LiesF.below HB5.out (d + 1)) (Below.refl _ _))).mono ?_; rintro e w6 ⟨rfl, hb6⟩; have HB6 := Lib.hid (HB5.out.trans (hb6.mono HB5.out.size)); clear hb6) | (go_at_call 13; refine (awake_any _).mono ?_; rintro e w9 ⟨rfl, hb9⟩; have HB9 := Lib.hid (HB6.out.trans (hb9.mono HB6.out.size)); clear hb9)); go_ret; exact ⟨rfl, HB9.out⟩)
      · go_wp2_with (first | (go_at_call 13; refine (awake_any _).mono ?_; rintro e w9 ⟨rfl, hb9⟩; have HB9 := Lib.hid (HB2.out.trans (hb9.mono HB2.out.size)); clear hb9))
        go_ret
        exact ⟨rfl, HB9.out⟩
    · go_wp2_with (first | (go_at_call 13; refine (awake_any _).mono ?_; rintro e w9 ⟨rfl, hb9⟩; have HB9 := Lib.hid (HB1.out.trans (hb9.mono HB1.out.size)); clear hb9))
      go_ret
      exact ⟨rfl, HB9.out⟩
end Go.Proofs.Ytcelpmojhjnggaa
