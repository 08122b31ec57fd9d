/- The document's Methods. -/
import Derived.Test.YtcelpmojhjnggaaX0
import Derived.Deep.Cut
import Derived.Deep.DeepCutAuto
import Derived.Deep.RegionHeld3
import Derived.BigRegion
import Derived.Deep.RegionWith
namespace Go.Proofs.Ytcelpmojhjnggaa
open Go Go.RowKit Go.Sort Go.Deep KindsP
set_option maxHeartbeats 4000000
set_option maxRecDepth 100000

theorem clo58_any (d : Nat) (w : World) (fn : ByteArray) (x0 : Int) (x1 x2 : ByteArray) (x3 : Option Addr) (x4 x5 : Nat) (x6 : Option Addr) (x7 x8 : Nat) (t : Ty) (ht : Lies w d (.agg #[.int .i64 x0, .string x1, .string x2, .slice x3 x4 x5, .slice x6 x7 x8]) t) (hs : sizT t ≤ 1000000000) :
    Calls Try.prog 58 #[.agg #[.string fn, .int .i64 x0, .string x1, .string x2, .slice x3 x4 x5, .slice x6 x7 x8]] w fun e w' => (∃ (y0 : Int) (y1 y2 : ByteArray) (y3 : Option Addr) (y4 y5 : Nat) (y6 : Option Addr) (y7 y8 : Nat), e = .returned (.agg #[.string fn, .int .i64 y0, .string y1, .string y2, .slice y3 y4 y5, .slice y6 y7 y8]) ∧ LiesIn (fun b => w.heap.size ≤ b) w' d (.agg #[.int .i64 y0, .string y1, .string y2, .slice y3 y4 y5, .slice y6 y7 y8]) t) ∧ Below w.heap.size w w' := by
  have hb2 := alloc2_below w (.cells #[.string fn, .int .i64 x0, .string x1, .string x2, .slice x3 x4 x5, .slice x6 x7 x8] 52) (.cells #[.string ⟨#[]⟩, .int .i64 0, .string ⟨#[]⟩, .string ⟨#[]⟩, .slice none 0 0, .slice none 0 0] 52)
  have HC := Lib.hid (copied_any d ((w.alloc (.cells #[.string fn, .int .i64 x0, .string x1, .string x2, .slice x3 x4 x5, .slice x6 x7 x8] 52)).alloc (.cells #[.string ⟨#[]⟩, .int .i64 0, .string ⟨#[]⟩, .string ⟨#[]⟩, .slice none 0 0, .slice none 0 0] 52)).drew _ t (Lies.below hb2.drew _ _ _ ht) hs)
  have HK := Lib.hid (fun (W : World) (hb : Below ((w.alloc (.cells #[.string fn, .int .i64 x0, .string x1, .string x2, .slice x3 x4 x5, .slice x6 x7 x8] 52)).alloc (.cells #[.string ⟨#[]⟩, .int .i64 0, .string ⟨#[]⟩, .string ⟨#[]⟩, .slice none 0 0, .slice none 0 0] 52)).heap.size ((w.alloc (.cells #[.string fn, .int .i64 x0, .string x1, .string x2, .slice x3 x4 x5, .slice x6 x7 x8] 52)).alloc (.cells #[.string ⟨#[]⟩, .int .i64 0, .string ⟨#[]⟩, .string ⟨#[]⟩, .slice none 0 0, .slice none 0 0] 52)) W) => alloc_known2 hb)
  clear ht hb2
  go_enter Try.func58, Try.ntmps58
  go_upto_region 1 with fail
  go_region_with (first | (go_at_call 39; refine HC.out.mono ?_; rintro e w7 ⟨u, rfl, hu, hb7⟩; have HB7 : Hid (Below ((w.alloc (.cells #[.string fn, .int .i64 x0, .string x1, .string x2, .slice x3 x4 x5, .slice x6 x7 x8] 52)).alloc (.cells #[.string ⟨#[]⟩, .int .i64 0, .string ⟨#[]⟩, .string ⟨#[]⟩, .slice none 0 0, .slice none 0 0] 52)).heap.size ((w.alloc (.cells #[.string fn, .int .i64 x0, .string x1, .string x2, .slice x3 x4 x5, .slice x6 x7 x8] 52)).alloc (.cells #[.string ⟨#[]⟩, .int .i64 0, .string ⟨#[]⟩, .string ⟨#[]⟩, .slice none 0 0, .slice none 0 0] 52)) w7) := Lib.hid (below_drew hb7); obtain ⟨e0, e1, e2, e3, e4, rfl⟩ := lies_five (LiesIn.lies _ _ _ hu); obtain ⟨y0, y1, y2, y3, y4, y5, y6, y7, y8, rfl, rfl, rfl, rfl, rfl⟩ := lies_form (LiesIn.lies _ _ _ hu); have HU := Lib.hid hu; obtain ⟨hk0, hk1, hbw⟩ := HK.out w7 HB7.out; have c0 : w7.cell? ⟨w.heap.size, 0, none⟩ = some (.string fn) := (cell_of_row _ _ 0 _ _ _ hk0).trans rfl; have c1 : w7.cell? ⟨w.heap.size, 1, none⟩ = some (.int .i64 x0) := (cell_of_row _ _ 1 _ _ _ hk0).trans rfl; have c2 : w7.cell? ⟨w.heap.size, 2, none⟩ = some (.string x1) := (cell_of_row _ _ 2 _ _ _ hk0).trans rfl; have c3 : w7.cell? ⟨w.heap.size, 3, none⟩ = some (.string x2) := (cell_of_row _ _ 3 _ _ _ hk0).trans rfl; have c4 : w7.cell? ⟨w.heap.size, 4, none⟩ = some (.slice x3 x4 x5) := (cell_of_row _ _ 4 _ _ _ hk0).trans rfl; have c5 : w7.cell? ⟨w.heap.size, 5, none⟩ = some (.slice x6 x7 x8) := (cell_of_row _ _ 5 _ _ _ hk0).trans rfl; have d0 : w7.cell? ⟨w.heap.size + 1, 0, none⟩ = some (.string ⟨#[]⟩) := (cell_of_row _ _ 0 _ _ _ hk1).trans rfl; have d1 : w7.cell? ⟨w.heap.size + 1, 1, none⟩ = some (.int .i64 0) := (cell_of_row _ _ 1 _ _ _ hk1).trans rfl; have d2 : w7.cell? ⟨w.heap.size + 1, 2, none⟩ = some (.string ⟨#[]⟩) := (cell_of_row _ _ 2 _ _ _ hk1).trans rfl; have d3 : w7.cell? ⟨w.heap.size + 1, 3, none⟩ = some (.string ⟨#[]⟩) := (cell_of_row _ _ 3 _ _ _ hk1).trans rfl; have d4 : w7.cell? ⟨w.heap.size + 1, 4, none⟩ = some (.slice none 0 0) := (cell_of_row _ _ 4 _ _ _ hk1).trans rfl; have d5 : w7.cell? ⟨w.heap.size + 1, 5, none⟩ = some (.slice none 0 0) := (cell_of_row _ _ 5 _ _ _ hk1).trans rfl; have fz : ∀ i, w7.frozen? ⟨w.heap.size + 1, i, none⟩ = false := (fun i => (by simp [World.frozen?, hk1])); have hsz : w.heap.size + 1 < w7.heap.size := (Array.getElem?_eq_some_iff.1 hk1).1; have HBW := Lib.hid hbw; clear hu hb7 hk0 hk1 hbw))
  all_goals
    go_wp2_with fail
    refine bodyPost_ret (v := .agg #[.string fn, .int .i64 y0, .string y1, .string y2, .slice y3 y4 y5, .slice y6 y7 y8]) (by simp [results, Try.results58, go_sem, d0, d1, d2, d3, d4, d5]) rfl ⟨⟨y0, y1, y2, y3, y4, y5, y6, y7, y8, rfl, ?_⟩, ?_⟩
    · have hs2 := HB7.out.size
      simp at hs2
      refine HU.out.kept (fun b h1 h2 => ⟨?_, ?_⟩)
      · simp at h1; omega
      · simp at h1
        rw [Below.heap_setCell _ _ _ _ (by simp; omega), Below.heap_setCell _ _ _ _ (by simp; omega), Below.heap_setCell _ _ _ _ (by simp; omega), Below.heap_setCell _ _ _ _ (by simp; omega), Below.heap_setCell _ _ _ _ (by simp; omega), Below.heap_setCell _ _ _ _ (by simp; omega)]
    · exact (((((HBW.out.setCell (by simp) _).setCell (by simp) _).setCell (by simp) _).setCell (by simp) _).setCell (by simp) _).setCell (by simp) _
end Go.Proofs.Ytcelpmojhjnggaa
