/- The walk of KindsFinds. -/
import Derived.Test.YtcelpmojhjnggaaU8
import Derived.Test.YtcelpmojhjnggaaU4
import Derived.Test.YtcelpmojhjnggaaL0
namespace Go.Proofs.Ytcelpmojhjnggaa
open Go Go.RowKit Go.Sort Go.Deep KindsP
set_option maxHeartbeats 4000000
set_option maxRecDepth 100000

theorem KindsFinds_any (v : Value) (d : Nat) (us : List Unt) (p n : ByteArray) (w : World) (h : RowG 4 (LiesU w d) w v us) (_ : p.size ≤ maxLen) (_ : n.size ≤ maxLen) :
    Calls Try.prog 6 #[v, .string p, .string n] w fun e w' => e = .returned (.bool true) ∧ Below w.heap.size w w' := by
  have HU := Lib.hid (units_some d w v us h)
  obtain ⟨a, c, rfl, _⟩ := h.form
  go_enter Try.func6, Try.ntmps6
  go_wp2_with (first | (go_at_call 24; refine HU.out.mono ?_; rintro e w1 ⟨⟨b, rfl⟩, hb1⟩; refine Hid.out ?_))
  refine Lib.hid ?_
  have HB1 := Lib.hid hb1
  clear hb1
  cases b
  · go_wp2_with (first | (go_at_call 25; refine (kfind_any d w w1 _ us p n h HB1.out).mono ?_; rintro e w2 hp; obtain ⟨hb2, kd, nm, of, vl, x0, x1, x2, x3, x4, x5, x6, x7, x8, xf, nf, cf, rfl, hl2⟩ := find_vals hp; have HB2 := Lib.hid (HB1.out.trans (hb2.mono HB1.out.size)); have HL2 := Lib.hid hl2; clear hp hb2 hl2) | (go_at_call 26; refine (rfind_any d w _ _ us p n h (HB2.out.alloc HB2.out.size _)).mono ?_; rintro e w4 hp; obtain ⟨hb4, kd', nm', of', vl', y0, y1, y2, y3, y4, y5, y6, y7, y8, yf, nf', cf', rfl, hl4⟩ := find_vals hp; obtain ⟨hk4, hbw⟩ := alloc_known hb4; have HB4 := Lib.hid (HB2.out.trans (hbw.mono HB2.out.size)); have HL4 := Lib.hid hl4; have c0 : w4.cell? ⟨w2.heap.size, 0, none⟩ = some (.int .i64 kd) := (cell_of_row _ _ 0 _ _ _ hk4).trans rfl; have c1 : w4.cell? ⟨w2.heap.size, 1, none⟩ = some (.string nm) := (cell_of_row _ _ 1 _ _ _ hk4).trans rfl; have c2 : w4.cell? ⟨w2.heap.size, 2, none⟩ = some (.string of) := (cell_of_row _ _ 2 _ _ _ hk4).trans rfl; have c3 : w4.cell? ⟨w2.heap.size, 3, none⟩ = some (.int .i64 vl) := (cell_of_row _ _ 3 _ _ _ hk4).trans rfl; have c4 : w4.cell? ⟨w2.heap.size, 4, none⟩ = some (.int .i64 x0) := (cell_of_row _ _ 4 _ _ _ hk4).trans rfl; have c5 : w4.cell? ⟨w2.heap.size, 5, none⟩ = some (.string x1) := (cell_of_row _ _ 5 _ _ _ hk4).trans rfl; have c6 : w4.cell? ⟨w2.heap.size, 6, none⟩ = some (.string x2) := (cell_of_row _ _ 6 _ _ _ hk4).trans rfl; have c7 : w4.cell? ⟨w2.heap.size, 7, none⟩ = some (.slice x3 x4 x5) := (cell_of_row _ _ 7 _ _ _ hk4).trans rfl; have c8 : w4.cell? ⟨w2.heap.size, 8, none⟩ = some (.slice x6 x7 x8) := (cell_of_row _ _ 8 _ _ _ hk4).trans rfl; have c9 : w4.cell? ⟨w2.heap.size, 9, none⟩ = some (.slice xf nf cf) := (cell_of_row _ _ 9 _ _ _ hk4).trans rfl; have hsz : w2.heap.size < w4.heap.size := (Array.getElem?_eq_some_iff.1 hk4).1; clear hp hb4 hbw hk4 hl4) | (go_at_call 27; refine (SameDecl_x (d + 1) (d + 1) (w4.alloc (.cells #[.int .i64 kd', .string nm', .string of', .int .i64 vl', .int .i64 y0, .string y1, .string y2, .slice y3 y4 y5, .slice y6 y7 y8, .slice yf nf' cf'] 41)) _ _ _ _ _ _ _ _ _ _ _ _ _ _ _ _ _ _ _ _ _ _ _ _ _ _ _ _ _ _ _ _ ((findU us p n).getD zD) (LiesD.below (HB4.out.alloc HB4.out.size _) _ _ _ HL2.out) (LiesD.below (HB4.out.alloc HB4.out.size _) _ _ _ HL4.out)).mono ?_; rintro e w6 ⟨rfl, hb6⟩; have HB6 := Lib.hid ((HB4.out.alloc HB4.out.size _).trans (hb6.mono (HB4.out.alloc HB4.out.size _).size)); clear hb6) | (go_at_call 13; refine (awake_any _).mono ?_; rintro e w9 ⟨rfl, hb9⟩; have HB9 := Lib.hid (HB6.out.trans (hb9.mono HB6.out.size)); clear hb9))
    go_ret
    exact ⟨rfl, HB9.out⟩
  · go_wp2_with (first | (go_at_call 13; refine (awake_any _).mono ?_; rintro e w9 ⟨rfl, hb9⟩; have HB9 := Lib.hid (HB1.out.trans (hb9.mono HB1.out.size)); clear hb9))
    go_ret
    exact ⟨rfl, HB9.out⟩
end Go.Proofs.Ytcelpmojhjnggaa
