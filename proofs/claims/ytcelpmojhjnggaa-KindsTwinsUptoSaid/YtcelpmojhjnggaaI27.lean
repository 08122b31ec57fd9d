/- The document's Methods. -/
import Derived.Test.YtcelpmojhjnggaaI25
import Derived.Deep.Cut
import Derived.Deep.DeepCutAuto
import Derived.Deep.RegionHeld3
import Derived.BigRegion
import Derived.Deep.RegionWith
import Derived.Test.YtcelpmojhjnggaaI26
namespace Go.Proofs.Ytcelpmojhjnggaa
open Go Go.RowKit Go.Sort Go.Deep KindsP
set_option maxHeartbeats 4000000
set_option maxRecDepth 100000

theorem clo58_any (d : Nat) (w : World) (fn : ByteArray) (x0 : Int) (x1 x2 : ByteArray) (x3 : Option Addr) (x4 x5 : Nat) (x6 : Option Addr) (x7 x8 : Nat) (t : Ty) (ht : Lies w d (.agg #[.int .i64 x0, .string x1, .string x2, .slice x3 x4 x5, .slice x6 x7 x8]) t) (hs : sizT t ≤ 1000000000) :
    Calls Try.prog 58 #[.agg #[.string fn, .int .i64 x0, .string x1, .string x2, .slice x3 x4 x5, .slice x6 x7 x8]] w fun e w' => (∃ (y0 : Int) (y1 y2 : ByteArray) (y3 : Option Addr) (y4 y5 : Nat) (y6 : Option Addr) (y7 y8 : Nat), e = .returned (.agg #[.string fn, .int .i64 y0, .string y1, .string y2, .slice y3 y4 y5, .slice y6 y7 y8]) ∧ LiesIn (fun b => w.heap.size ≤ b) w' d (.agg #[.int .i64 y0, .string y1, .string y2, .slice y3 y4 y5, .slice y6 y7 y8]) t) ∧ Below w.heap.size w w' := by
  have hb2 := alloc2_below w (.cells #[.string fn, .int .i64 x0, .string x1, .string x2, .slice x3 x4 x5, .slice x6 x7 x8] 52) (.cells #[.string ⟨#[]⟩, .int .i64 0, .string ⟨#[]⟩, .string ⟨#[]⟩, .slice none 0 0, .slice none 0 0] 52)
  have HC := Lib.hid (copied_any d ((w.alloc (.cells #[.string fn, .int .i64 x0, .string x1, .string x2, .slice x3 x4 x5, .slice x6 x7 x8] 52)).alloc (.cells #[.string ⟨#[]⟩, .int .i64 0, .string ⟨#[]⟩, .string ⟨#[]⟩, .slice none 0 0, .slice none 0 0] 52)).drew _ t (Lies.below hb2.drew _ _ _ ht) hs)
  have HK := Lib.hid (fun (W : World) (hb : Below ((w.alloc (.cells #[.string fn, .int .i64 x0, .string x1, .string x2, .slice x3 x4 x5, .slice x6 x7 x8] 52)).alloc (.cells #[.string ⟨#[]⟩, .int .i64 0, .string ⟨#[]⟩, .string ⟨#[]⟩, .slice none 0 0, .slice none 0 0] 52)).heap.size ((w.alloc (.cells #[.string fn, .int .i64 x0, .string x1, .string x2, .slice x3 x4 x5, .slice x6 x7 x8] 52)).alloc (.cells #[.string ⟨#[]⟩, .int .i64 0, .string ⟨#[]⟩, .string ⟨#[]⟩, .slice none 0 0, .slice none 0 0] 52)) W) => alloc_known2 hb)
  clear ht hb2
  go_enter Try.func58, Try.ntmps58
  go_upto_region 1 with fail
  go_region_with (first | (go_at_call 39; refine HC.out.mono ?_; rintro e w7 ⟨u, rfl, hu, hb7⟩; have HB7 : Hid (Below ((w.alloc (.cells #[.string fn, .int .i64 x0, .string x1, .string x2, .slice x3 x4 x5, .slice x6 x7 x8] 52)).alloc (.cells #[.string ⟨#[]⟩, .int .i64 0, .string ⟨#[]⟩, .string ⟨#[]⟩, .slice none 0 0, .slice none 0 0] 52)).heap.size ((w.alloc (.cells #[.string fn, .int .i64 x0, .string x1, .string x2, .slice x3 x4 x5, .slice x6 x7 x8] 52)).alloc (.cells #[.string ⟨#[]⟩, .int .i64 0, .string ⟨#[]⟩, .string ⟨#[]⟩, .slice none 0 0, .slice none 0 0] 52)) w7) := Lib.hid (below_drew hb7); obtain ⟨e0, e1, e2, e3, e4, rfl⟩ := lies_five (LiesIn.lies _ _ _ hu); obtain ⟨y0, y1, y2, y3, y4, y5, y6, y7, y8, rfl, rfl, rfl, rfl, rfl⟩ := lies_form (LiesIn.lies _ _ _ hu); have HU := Lib.hid hu; obtain ⟨hk0, hk1, hbw⟩ := HK.out w7 HB7.out; have c0 : w7.cell? ⟨w.heap.size, 0, none⟩ = some (.string fn) := (cell_of_row _ _ 0 _ _ _ hk0).trans rfl; have c1 : w7.cell? ⟨w.heap.size, 1, none⟩ = some (.int .i64 x0) := (cell_of_row _ _ 1 _ _ _ hk0).trans rfl; have c2 : w7.cell? ⟨w.heap.size, 2, none⟩ = some (.string x1) := (cell_of_row _ _ 2 _ _ _ hk0).trans rfl; have c3 : w7.cell? ⟨w.heap.size, 3, none⟩ = some (.string x2) := (cell_of_row _ _ 3 _ _ _ hk0).trans rfl; have c4 : w7.cell? ⟨w.heap.size, 4, none⟩ = some (.slice x3 x4 x5) := (cell_of_row _ _ 4 _ _ _ hk0).trans rfl; have c5 : w7.cell? ⟨w.heap.size, 5, none⟩ = some (.slice x6 x7 x8) := (cell_of_row _ _ 5 _ _ _ hk0).trans rfl; have d0 : w7.cell? ⟨w.heap.size + 1, 0, none⟩ = some (.string ⟨#[]⟩) := (cell_of_row _ _ 0 _ _ _ hk1).trans rfl; have d1 : w7.cell? ⟨w.heap.size + 1, 1, none⟩ = some (.int .i64 0) := (cell_of_row _ _ 1 _ _ _ hk1).trans rfl; have d2 : w7.cell? ⟨w.heap.size + 1, 2, none⟩ = some (.string ⟨#[]⟩) := (cell_of_row _ _ 2 _ _ _ hk1).trans rfl; have d3 : w7.cell? ⟨w.heap.size + 1, 3, none⟩ = some (.string ⟨#[]⟩) := (cell_of_row _ _ 3 _ _ _ hk1).trans rfl; have d4 : w7.cell? ⟨w.heap.size + 1, 4, none⟩ = some (.slice none 0 0) := (cell_of_row _ _ 4 _ _ _ hk1).trans rfl; have d5 : w7.cell? ⟨w.heap.size + 1, 5, none⟩ = some (.slice none 0 0) := (cell_of_row _ _ 5 _ _ _ hk1).trans rfl; have fz : ∀ i, w7.frozen? ⟨w.heap.size + 1, i, none⟩ = false := (fun i => (by simp [World.frozen?, hk1])); have hsz : w.heap.size + 1 < w7.heap.size := (Array.getElem?_eq_some_iff.1 hk1).1; have HBW := Lib.hid hbw; clear hu hb7 hk0 hk1 hbw))
  all_goals
    go_wp2_with fail
    refine bodyPost_ret (v := .agg #[.string fn, .int .i64 y0, .string y1, .string y2, .slice y3 y4 y5, .slice y6 y7 y8]) (by simp [results, Try.results58, go_sem, d0, d1, d2, d3, d4, d5]) rfl ⟨⟨y0, y1, y2, y3, y4, y5, y6, y7, y8, rfl, ?_⟩, ?_⟩
    · have hs2 := HB7.out.size
      simp at hs2
      refine HU.out.kept (fun b h1 h2 => ⟨?_, ?_⟩)
      · simp at h1; omega
      · simp at h1
        rw [Below.heap_setCell _ _ _ _ (by simp; omega), Below.heap_setCell _ _ _ _ (by simp; omega), Below.heap_setCell _ _ _ _ (by simp; omega), Below.heap_setCell _ _ _ _ (by simp; omega), Below.heap_setCell _ _ _ _ (by simp; omega), Below.heap_setCell _ _ _ _ (by simp; omega)]
    · exact (((((HBW.out.setCell (by simp) _).setCell (by simp) _).setCell (by simp) _).setCell (by simp) _).setCell (by simp) _).setCell (by simp) _
end Go.Proofs.Ytcelpmojhjnggaa

/- The document's Methods: a field in memory of its own, that can be spoilt. -/
namespace Go.Proofs.Ytcelpmojhjnggaa
open Go Go.RowKit Go.Sort Go.Deep KindsP
set_option maxHeartbeats 4000000
set_option maxRecDepth 100000

theorem clo58f_any (d : Nat) (w : World) (fn : ByteArray) (x0 : Int) (x1 x2 : ByteArray) (x3 : Option Addr) (x4 x5 : Nat) (x6 : Option Addr) (x7 x8 : Nat) (t : Ty) (ht : Lies w d (.agg #[.int .i64 x0, .string x1, .string x2, .slice x3 x4 x5, .slice x6 x7 x8]) t) (hs : sizT t ≤ 1000000000) :
    Calls Try.prog 58 #[.agg #[.string fn, .int .i64 x0, .string x1, .string x2, .slice x3 x4 x5, .slice x6 x7 x8]] w fun e w' => (∃ (y0 : Int) (y1 y2 : ByteArray) (y3 : Option Addr) (y4 y5 : Nat) (y6 : Option Addr) (y7 y8 : Nat), e = .returned (.agg #[.string fn, .int .i64 y0, .string y1, .string y2, .slice y3 y4 y5, .slice y6 y7 y8]) ∧ LiesIn (fun b => w.heap.size ≤ b ∧ Thawed w' b) w' d (.agg #[.int .i64 y0, .string y1, .string y2, .slice y3 y4 y5, .slice y6 y7 y8]) t) ∧ Below w.heap.size w w' := by
  have hb2 := alloc2_below w (.cells #[.string fn, .int .i64 x0, .string x1, .string x2, .slice x3 x4 x5, .slice x6 x7 x8] 52) (.cells #[.string ⟨#[]⟩, .int .i64 0, .string ⟨#[]⟩, .string ⟨#[]⟩, .slice none 0 0, .slice none 0 0] 52)
  have HC := Lib.hid (copiedf_any d ((w.alloc (.cells #[.string fn, .int .i64 x0, .string x1, .string x2, .slice x3 x4 x5, .slice x6 x7 x8] 52)).alloc (.cells #[.string ⟨#[]⟩, .int .i64 0, .string ⟨#[]⟩, .string ⟨#[]⟩, .slice none 0 0, .slice none 0 0] 52)).drew _ t (Lies.below hb2.drew _ _ _ ht) hs)
  have HK := Lib.hid (fun (W : World) (hb : Below ((w.alloc (.cells #[.string fn, .int .i64 x0, .string x1, .string x2, .slice x3 x4 x5, .slice x6 x7 x8] 52)).alloc (.cells #[.string ⟨#[]⟩, .int .i64 0, .string ⟨#[]⟩, .string ⟨#[]⟩, .slice none 0 0, .slice none 0 0] 52)).heap.size ((w.alloc (.cells #[.string fn, .int .i64 x0, .string x1, .string x2, .slice x3 x4 x5, .slice x6 x7 x8] 52)).alloc (.cells #[.string ⟨#[]⟩, .int .i64 0, .string ⟨#[]⟩, .string ⟨#[]⟩, .slice none 0 0, .slice none 0 0] 52)) W) => alloc_known2 hb)
  clear ht hb2
  go_enter Try.func58, Try.ntmps58
  go_upto_region 1 with fail
  go_region_with (first | (go_at_call 39; refine HC.out.mono ?_; rintro e w7 ⟨u, rfl, hu, hb7⟩; have HB7 : Hid (Below ((w.alloc (.cells #[.string fn, .int .i64 x0, .string x1, .string x2, .slice x3 x4 x5, .slice x6 x7 x8] 52)).alloc (.cells #[.string ⟨#[]⟩, .int .i64 0, .string ⟨#[]⟩, .string ⟨#[]⟩, .slice none 0 0, .slice none 0 0] 52)).heap.size ((w.alloc (.cells #[.string fn, .int .i64 x0, .string x1, .string x2, .slice x3 x4 x5, .slice x6 x7 x8] 52)).alloc (.cells #[.string ⟨#[]⟩, .int .i64 0, .string ⟨#[]⟩, .string ⟨#[]⟩, .slice none 0 0, .slice none 0 0] 52)) w7) := Lib.hid (below_drew hb7); obtain ⟨e0, e1, e2, e3, e4, rfl⟩ := lies_five (LiesIn.lies _ _ _ hu); obtain ⟨y0, y1, y2, y3, y4, y5, y6, y7, y8, rfl, rfl, rfl, rfl, rfl⟩ := lies_form (LiesIn.lies _ _ _ hu); have HU := Lib.hid hu; obtain ⟨hk0, hk1, hbw⟩ := HK.out w7 HB7.out; have c0 : w7.cell? ⟨w.heap.size, 0, none⟩ = some (.string fn) := (cell_of_row _ _ 0 _ _ _ hk0).trans rfl; have c1 : w7.cell? ⟨w.heap.size, 1, none⟩ = some (.int .i64 x0) := (cell_of_row _ _ 1 _ _ _ hk0).trans rfl; have c2 : w7.cell? ⟨w.heap.size, 2, none⟩ = some (.string x1) := (cell_of_row _ _ 2 _ _ _ hk0).trans rfl; have c3 : w7.cell? ⟨w.heap.size, 3, none⟩ = some (.string x2) := (cell_of_row _ _ 3 _ _ _ hk0).trans rfl; have c4 : w7.cell? ⟨w.heap.size, 4, none⟩ = some (.slice x3 x4 x5) := (cell_of_row _ _ 4 _ _ _ hk0).trans rfl; have c5 : w7.cell? ⟨w.heap.size, 5, none⟩ = some (.slice x6 x7 x8) := (cell_of_row _ _ 5 _ _ _ hk0).trans rfl; have d0 : w7.cell? ⟨w.heap.size + 1, 0, none⟩ = some (.string ⟨#[]⟩) := (cell_of_row _ _ 0 _ _ _ hk1).trans rfl; have d1 : w7.cell? ⟨w.heap.size + 1, 1, none⟩ = some (.int .i64 0) := (cell_of_row _ _ 1 _ _ _ hk1).trans rfl; have d2 : w7.cell? ⟨w.heap.size + 1, 2, none⟩ = some (.string ⟨#[]⟩) := (cell_of_row _ _ 2 _ _ _ hk1).trans rfl; have d3 : w7.cell? ⟨w.heap.size + 1, 3, none⟩ = some (.string ⟨#[]⟩) := (cell_of_row _ _ 3 _ _ _ hk1).trans rfl; have d4 : w7.cell? ⟨w.heap.size + 1, 4, none⟩ = some (.slice none 0 0) := (cell_of_row _ _ 4 _ _ _ hk1).trans rfl; have d5 : w7.cell? ⟨w.heap.size + 1, 5, none⟩ = some (.slice none 0 0) := (cell_of_row _ _ 5 _ _ _ hk1).trans rfl; have fz : ∀ i, w7.frozen? ⟨w.heap.size + 1, i, none⟩ = false := (fun i => (by simp [World.frozen?, hk1])); have hsz : w.heap.size + 1 < w7.heap.size := (Array.getElem?_eq_some_iff.1 hk1).1; have HBW := Lib.hid hbw; clear hu hb7 hk0 hk1 hbw))
  all_goals
    go_wp2_with fail
    refine bodyPost_ret (v := .agg #[.string fn, .int .i64 y0, .string y1, .string y2, .slice y3 y4 y5, .slice y6 y7 y8]) (by simp [results, Try.results58, go_sem, d0, d1, d2, d3, d4, d5]) rfl ⟨⟨y0, y1, y2, y3, y4, y5, y6, y7, y8, rfl, ?_⟩, ?_⟩
    · have hs2 := HB7.out.size
      simp at hs2
      refine HU.out.kept (fun b hb h2 => ?_)
      obtain ⟨h1, h4⟩ := hb
      simp at h1
      have e9 : ∀ (u0 u1 u2 u3 u4 u5 : Value), ((((((w7.setCell ⟨w.heap.size + 1, 0, none⟩ u0).setCell ⟨w.heap.size + 1, 1, none⟩ u1).setCell ⟨w.heap.size + 1, 2, none⟩ u2).setCell ⟨w.heap.size + 1, 3, none⟩ u3).setCell ⟨w.heap.size + 1, 4, none⟩ u4).setCell ⟨w.heap.size + 1, 5, none⟩ u5).heap[b]? = w7.heap[b]? := by
        intro u0 u1 u2 u3 u4 u5
        rw [Below.heap_setCell _ _ _ _ (by simp; omega), Below.heap_setCell _ _ _ _ (by simp; omega), Below.heap_setCell _ _ _ _ (by simp; omega), Below.heap_setCell _ _ _ _ (by simp; omega), Below.heap_setCell _ _ _ _ (by simp; omega), Below.heap_setCell _ _ _ _ (by simp; omega)]
      exact ⟨⟨by omega, h4.same (e9 _ _ _ _ _ _)⟩, e9 _ _ _ _ _ _⟩
    · exact (((((HBW.out.setCell (by simp) _).setCell (by simp) _).setCell (by simp) _).setCell (by simp) _).setCell (by simp) _).setCell (by simp) _
end Go.Proofs.Ytcelpmojhjnggaa

/- The document's Methods. -/
namespace Go.Proofs.Ytcelpmojhjnggaa
open Go Go.RowKit Go.Sort Go.Deep KindsP
set_option maxHeartbeats 4000000
set_option maxRecDepth 100000

/-- a field whose type lies in blocks that ok knows -/
def LiesFI (ok : Nat → Prop) (w : World) (d : Nat) (cs : List Value) (x : Fld) : Prop := ∃ c0 c1 c2 c3 c4, cs = [.string x.name, c0, c1, c2, c3, c4] ∧ LiesIn ok w d (.agg #[c0, c1, c2, c3, c4]) x.ty
theorem LiesFI.lies {ok : Nat → Prop} {w : World} {d : Nat} {cs : List Value} {x : Fld} (h : LiesFI ok w d cs x) : LiesF w d cs x := by
  obtain ⟨c0, c1, c2, c3, c4, h1, h2⟩ := h
  exact ⟨c0, c1, c2, c3, c4, h1, LiesIn.lies _ _ _ h2⟩
theorem LiesFI.kept {ok ok' : Nat → Prop} {w w' : World} {d : Nat} {cs : List Value} {x : Fld} (h : LiesFI ok w d cs x) (hk : ∀ b, ok b → b < w.heap.size → ok' b ∧ w'.heap[b]? = w.heap[b]?) : LiesFI ok' w' d cs x := by
  obtain ⟨c0, c1, c2, c3, c4, h1, h2⟩ := h
  exact ⟨c0, c1, c2, c3, c4, h1, h2.kept hk⟩
/-- these cells are these fields, as R says -/
def CellsR (R : List Value → Fld → Prop) (cells : List Value) (l : List Fld) : Prop := ∀ k x, l[k]? = some x → ∃ c0 c1 c2 c3 c4 c5 : Value, cells[k * 6]? = some c0 ∧ cells[k * 6 + 1]? = some c1 ∧ cells[k * 6 + 2]? = some c2 ∧ cells[k * 6 + 3]? = some c3 ∧ cells[k * 6 + 4]? = some c4 ∧ cells[k * 6 + 5]? = some c5 ∧ R [c0, c1, c2, c3, c4, c5] x
theorem CellsR.mono {R R' : List Value → Fld → Prop} {cells : List Value} {l : List Fld} (h : CellsR R cells l) (hR : ∀ cs x, R cs x → R' cs x) : CellsR R' cells l := by
  intro k x hx
  obtain ⟨c0, c1, c2, c3, c4, c5, e0, e1, e2, e3, e4, e5, hr⟩ := h k x hx
  exact ⟨c0, c1, c2, c3, c4, c5, e0, e1, e2, e3, e4, e5, hR _ _ hr⟩
theorem CellsR.snoc {R : List Value → Fld → Prop} {cells : List Value} {l : List Fld} (h : CellsR R cells l) (hl : cells.length = l.length * 6) (c0 c1 c2 c3 c4 c5 : Value) (x : Fld) (hx : R [c0, c1, c2, c3, c4, c5] x) : CellsR R (cells ++ [c0, c1, c2, c3, c4, c5]) (l ++ [x]) := by
  intro k y hy
  by_cases hk : k < l.length
  · rw [List.getElem?_append_left hk] at hy
    obtain ⟨d0, d1, d2, d3, d4, d5, e0, e1, e2, e3, e4, e5, hf⟩ := h k y hy
    exact ⟨d0, d1, d2, d3, d4, d5, by rw [List.getElem?_append_left (by omega)]; exact e0, by rw [List.getElem?_append_left (by omega)]; exact e1, by rw [List.getElem?_append_left (by omega)]; exact e2, by rw [List.getElem?_append_left (by omega)]; exact e3, by rw [List.getElem?_append_left (by omega)]; exact e4, by rw [List.getElem?_append_left (by omega)]; exact e5, hf⟩
  · have hkl : k = l.length := by
      have := (List.getElem?_eq_some_iff.1 hy).1
      simp at this; omega
    subst hkl
    rw [List.getElem?_append_right (Nat.le_refl _)] at hy
    simp at hy
    subst hy
    refine ⟨c0, c1, c2, c3, c4, c5, ?_, ?_, ?_, ?_, ?_, ?_, hx⟩ <;> (rw [List.getElem?_append_right (by omega)]; simp [hl])
theorem CellsR.rowG {R : List Value → Fld → Prop} {w : World} {B : Nat} {v : Value} {l : List Fld} {cells : List Value} (ho : w.ownsRow B 52 6 v l.length cells) (h : CellsR R cells l) : RowG 6 R w v l := by
  obtain ⟨h1, h2⟩ := ho
  rcases h2 with ⟨rfl, h0⟩ | ⟨g, cap, cur, rfl, hB, hg, hnc, hcm, hsz, htk⟩
  · obtain rfl := List.length_eq_zero_iff.1 h0
    exact RowG.nil _ _ _
  · refine ⟨_, cap, rfl, hnc, hcm, .inr ⟨g, 0, rfl, fun k x hk => ?_⟩⟩
    obtain ⟨c0, c1, c2, c3, c4, c5, e0, e1, e2, e3, e4, e5, hl⟩ := h k x hk
    have key : ∀ (i : Nat) (u : Value), cells[i]? = some u → w.cell? ⟨g, i, none⟩ = some u := by
      intro i u hu
      rw [← htk] at hu
      have hi : i < l.length * 6 := by
        have := (List.getElem?_eq_some_iff.1 hu).1
        rw [List.length_take] at this; omega
      rw [List.getElem?_take_of_lt hi, Array.getElem?_toList] at hu
      simp [World.cell?, hg, hu]
    refine ⟨_, hl, fun j u hu => ?_⟩
    rw [Nat.zero_add]
    match j, hu with
    | 0, hu => simp at hu; subst hu; exact key _ _ e0
    | 1, hu => simp at hu; subst hu; exact key _ _ e1
    | 2, hu => simp at hu; subst hu; exact key _ _ e2
    | 3, hu => simp at hu; subst hu; exact key _ _ e3
    | 4, hu => simp at hu; subst hu; exact key _ _ e4
    | 5, hu => simp at hu; subst hu; exact key _ _ e5
    | j + 6, hu => simp at hu
abbrev fM2 : Value := .func (.func 58) #[] #[]
theorem each57_any (d : Nat) (w : World) (v : Value) (l : List Fld) (h : RowG 6 (LiesF w d) w v l) (hll : l.length ≤ 1000000) (hsz : ∀ x ∈ l, sizT x.ty ≤ 1000000000) :
    Calls Try.prog 57 #[v, fM2] w fun e w' => ∃ u, e = .returned u ∧ RowG 6 (LiesFI (fun b => w.heap.size ≤ b) w' d) w' u l ∧ Below w.heap.size w w' := by
  obtain ⟨a, c, rfl, hc, hcm, hf⟩ := h.form
  have HA := Lib.hid h
  have HSI := Lib.hid hsz
  obtain ⟨i9, hi9, hz90, hz91, hz92⟩ := info_parts Try.info52'
  clear h hsz
  go_enter Try.func57, Try.ntmps57
  go_wp2_with fail
  go_loopw [5, 10] (fun ov iv wr => ∃ (k : Nat) (cells : List Value), k ≤ l.length ∧ iv = .int .i64 k ∧ wr.ownsRow w.heap.size 52 6 ov k cells ∧ CellsR (LiesFI (fun b => w.heap.size ≤ b ∧ b < wr.heap.size ∧ ov.ownBlock ≠ some b) wr d) cells (l.take k) ∧ Below w.heap.size w wr) (fun _ iv _ => l.length - (intOf iv).toNat)
  case atStart => exact ⟨0, [], by omega, rfl, World.ownsRow_nil _ _ _ _, fun k x hx => by simp at hx, Below.refl _ _⟩
  case round =>
    obtain ⟨k, cells, hk, rfl, hown, hvs, hb⟩ := hrel
    obtain ⟨ao, cap, rfl⟩ := own_shape hown
    have HB := Lib.hid hb
    have HO := Lib.hid hown
    have HV := Lib.hid hvs
    have hsz := hb.size
    clear hb hown hvs
    by_cases hlt : k < l.length
    · obtain ⟨b, o, rfl⟩ := hf (by omega)
      obtain ⟨cs, ⟨z0, z1, z2, z3, z4, rfl, hty⟩, hcs⟩ := HA.out.get k l[k] (by simp)
      have HST := Lib.hid (HSI.out l[k] (List.getElem_mem hlt))
      have HT := Lib.hid (show l.take (k + 1) = l.take k ++ [l[k]] by rw [List.take_add_one, List.getElem?_eq_getElem hlt]; rfl)
      obtain ⟨x, hx⟩ : ∃ x, l[k] = x := ⟨_, rfl⟩
      rw [hx] at hty hcs HST HT
      obtain ⟨fn, t⟩ := x
      dsimp only at hty hcs HST
      obtain ⟨q0, q1, q2, q3, q4, q5, q6, q7, q8, rfl, rfl, rfl, rfl, rfl⟩ := lies_form hty
      have HL := Lib.hid (fun w' (hb : Below wr.heap.size wr w') => Lies.below (HB.out.trans (hb.mono hsz)) _ _ _ hty)
      have f0 := cell_on HB.out (hcs 0 _ rfl)
      rw [Nat.add_zero] at f0
      have f1 := cell_on HB.out (hcs 1 _ rfl)
      have f2 := cell_on HB.out (hcs 2 _ rfl)
      have f3 := cell_on HB.out (hcs 3 _ rfl)
      have f4 := cell_on HB.out (hcs 4 _ rfl)
      have f5 := cell_on HB.out (hcs 5 _ rfl)
      clear hty hcs hx
      go_wp2_with (first | (go_at_call 58; refine (clo58_any d _ fn q0 q1 q2 q3 q4 q5 q6 q7 q8 t (HL.out _ ((Below.refl _ _).alloc (Nat.le_refl _) _)) HST.out).mono ?_; rintro e w2 ⟨⟨y0, y1, y2, y3, y4, y5, y6, y7, y8, rfl, hlu⟩, hb2⟩; obtain ⟨-, hb3⟩ := alloc_known hb2; have HU := Lib.hid hlu; have HB2 := Lib.hid hb3; have hsz2 := hb3.size; clear hb2 hb3 hlu) | (at_builtin; refine wpList_append_lies _ rfl (.tmp 14) (.tmp 18) 39 rfl w.heap.size 52 i9 _ 6 104 Try.underlying39 hi9 hz90 hz91 hz92 rfl (by decide) _ k _ rfl ((own_below HO.out HB2.out).alloc _) ⟨w2.heap.size, 0, none⟩ 1 1 [.string fn, .int .i64 y0, .string y1, .string y2, .slice y3 y4 y5, .slice y6 y7 y8] rfl rfl (World.news_of_block (cs := #[.string fn, .int .i64 y0, .string y1, .string y2, .slice y3 y4 y5, .slice y6 y7 y8]) (t := 52) (fr := (0, 0)) (heap_alloc_new w2 _)) (by simp [Value.oneCell']) (by omega) (by unfold maxLen; omega) (by omega) (by simp; omega) (w2.heap.size + 1) (by simp) ?_; intro gg cp w3 hown3 hgrow hat hlt3; have HG : Hid ((w2.alloc (.cells #[.string fn, .int .i64 y0, .string y1, .string y2, .slice y3 y4 y5, .slice y6 y7 y8] 52)).grownBy w3 (Value.slice ao k cap).ownBlock) := hgrow; have HW3 := Lib.hid hown3; have HAT : Hid ((Value.slice ao k cap).ownBlock = some gg ∨ gg = w2.heap.size + 1) := hat; clear hown3 hgrow hat))
      have hbw : Below w.heap.size w w3 := ((HB.out.trans (HB2.out.mono hsz)).alloc (by omega) _).grown HG.out (by simp; omega) (fun g hg => (HO.out.lt g hg).1)
      have hgo := fun g hg => HO.out.lt g hg
      have hat := HAT.out
      have hold : ∀ b, (w.heap.size ≤ b ∧ b < wr.heap.size ∧ (Value.slice ao k cap).ownBlock ≠ some b) → b < wr.heap.size → (w.heap.size ≤ b ∧ b < w3.heap.size ∧ (Value.slice (some ⟨gg, 0, none⟩) (k + 1) cp).ownBlock ≠ some b) ∧ w3.heap[b]? = wr.heap[b]? := by
        intro b hb hlt
        obtain ⟨h1, h2, h3⟩ := hb
        have e1 : w2.heap[b]? = wr.heap[b]? := HB2.out.block b hlt
        have e2 := heap_alloc_old w2 (.cells #[.string fn, .int .i64 y0, .string y1, .string y2, .slice y3 y4 y5, .slice y6 y7 y8] 52) (r := b) (by omega)
        have e3 := HG.out.block b (by simp; omega) (Ne.symm h3)
        have hs3 := HG.out.size
        simp at hs3
        refine ⟨⟨h1, by omega, ?_⟩, e3.trans (e2.trans e1)⟩
        rcases hat with h | h
        · intro e; apply h3; rw [h]; exact e
        · intro e; have : gg = b := by simpa [Value.ownBlock] using e
          omega
      have hnew : ∀ b, (wr.alloc (.cells #[.string fn, .int .i64 q0, .string q1, .string q2, .slice q3 q4 q5, .slice q6 q7 q8] 52)).heap.size ≤ b → b < w2.heap.size → (w.heap.size ≤ b ∧ b < w3.heap.size ∧ (Value.slice (some ⟨gg, 0, none⟩) (k + 1) cp).ownBlock ≠ some b) ∧ w3.heap[b]? = w2.heap[b]? := by
        intro b hb hlt
        simp at hb
        have hne : ∀ g, (Value.slice ao k cap).ownBlock = some g → g ≠ b := fun g hg => by have := (hgo g hg).2; omega
        have e2 := heap_alloc_old w2 (.cells #[.string fn, .int .i64 y0, .string y1, .string y2, .slice y3 y4 y5, .slice y6 y7 y8] 52) (r := b) hlt
        have e3 := HG.out.block b (by simp; omega) (fun e => hne b e.symm rfl)
        have hs3 := HG.out.size
        simp at hs3
        refine ⟨⟨by omega, by omega, ?_⟩, e3.trans e2⟩
        intro e
        have : gg = b := by simpa [Value.ownBlock] using e
        rcases hat with h | h
        · exact hne gg h this
        · omega
      refine ⟨⟨k + 1, _, by omega, by go_num, HW3.out, ?_, hbw⟩, by simp [intOf]; omega⟩
      rw [HT.out]
      exact (HV.out.mono (fun _ _ h => h.kept hold)).snoc (by rw [HO.out.1, List.length_take]; congr 1; omega) _ _ _ _ _ _ ⟨fn, t⟩ ⟨_, _, _, _, _, rfl, HU.out.kept hnew⟩
    · have hkl : k = l.length := by omega
      go_wp2_with fail
      go_ret
      refine ⟨_, rfl, ?_, HB.out⟩
      subst hkl
      have hv := HV.out
      rw [List.take_length] at hv
      exact CellsR.rowG HO.out (hv.mono (fun _ _ h => h.kept (fun b h1 _ => ⟨h1.1, rfl⟩)))
end Go.Proofs.Ytcelpmojhjnggaa
