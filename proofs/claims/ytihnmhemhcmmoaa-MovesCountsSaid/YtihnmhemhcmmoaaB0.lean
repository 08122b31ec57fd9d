/- The walk of awake: the document's examples. -/
import Derived.Test.YtihnmhemhcmmoaaA9
namespace Go.Proofs.Ytihnmhemhcmmoaa
open Go Go.RowKit Go.Maps Go.WideMaps Go.Sort
set_option maxHeartbeats 2000000
set_option maxRecDepth 100000

theorem num9 (w : World) (x : Int) : Calls Try.prog 9 #[.int .i64 x] w fun e w' => e = .returned (.int .i64 x) ∧ w' = w := by
  go_enter Try.func9, Try.ntmps9
  go_wp2_with fail
  go_ret
  exact ⟨rfl, rfl⟩
theorem mv_two {w : World} {b : Nat} {x y z u : Int} (h : w.heap[b]? = some (.cells #[.int .i64 x, .int .i64 y, .int .i64 z, .int .i64 u] 31)) (hx : I64 x) (hy : I64 y) (hz : I64 z) (hu : I64 u) : MvRow w (.slice (some ⟨b, 0, none⟩) 2 2) [⟨x, y⟩, ⟨z, u⟩] := by
  refine ⟨⟨_, 2, rfl, by simp, by unfold maxLen; omega, .inr ⟨b, 0, rfl, fun i m hm => ?_⟩⟩, ?_⟩
  · match i, hm with
    | 0, hm => simp at hm; subst hm; exact ⟨cell_of h rfl, cell_of h rfl⟩
    | 1, hm => simp at hm; subst hm; exact ⟨cell_of h rfl, cell_of h rfl⟩
    | i + 2, hm => simp at hm
  · intro m hm
    simp at hm
    rcases hm with rfl | rfl
    · exact ⟨hx, hy⟩
    · exact ⟨hz, hu⟩
theorem row31 {w : World} {base : Nat} {ag : Option Addr} {n c : Nat} {xs : List Value} (h : w.ownsRow base 31 2 (.slice ag n c) n xs) (hn : 0 < n) : ∃ g, ag = some ⟨g, 0, none⟩ ∧ ∀ j v, xs[j]? = some v → w.cell? ⟨g, j, none⟩ = some v := by
  have hc := fun g hg => h.cells (g := g) hg
  rcases h.2 with ⟨_, h0⟩ | ⟨g, cap, cur, e, _⟩
  · omega
  · simp only [Value.slice.injEq] at e
    obtain ⟨rfl, _, _⟩ := e
    refine ⟨g, rfl, fun j v hv => ?_⟩
    have := hc g rfl j v hv
    have e : (⟨g, 0, none⟩ : Addr).add j = ⟨g, j, none⟩ := by cases j <;> simp [Addr.add]
    rwa [e] at this
theorem ex1 : sortedP [⟨0, 1⟩, ⟨1, 0⟩] 9 10 = some [⟨9, 0⟩, ⟨0, 1⟩, ⟨1, 9⟩] := by kernel_rfl
theorem ex2 : sortedP [⟨0, 1⟩, ⟨1, 2⟩] 9 10 = some [⟨0, 1⟩, ⟨1, 2⟩] := by kernel_rfl
theorem ex3 : badP 9 [⟨0, 1⟩, ⟨1, 0⟩] (fun _ => none) = false := by kernel_rfl
theorem ex4 : badP 9 [⟨0, 1⟩, ⟨1, 2⟩] (fun _ => none) = false := by kernel_rfl
theorem eqMv (w : World) : (binOp .eql 31 (.agg #[.int .i64 0, .int .i64 1]) (.agg #[.int .i64 0, .int .i64 1])).run Try.prog w = .ok (.bool true) w := by kernel_rfl
theorem awake7 (w : World) : Calls Try.prog 7 #[] w fun e w' => e = .returned (.bool true) ∧ Below w.heap.size w w' := by
  have hb1 : Below w.heap.size w (w.alloc (.cells #[.int .i64 0, .int .i64 1, .int .i64 1, .int .i64 0] 31)) := (Below.refl _ _).alloc (Nat.le_refl _) _
  have H1 := Lib.hid (order8 (w.alloc (.cells #[.int .i64 0, .int .i64 1, .int .i64 1, .int .i64 0] 31)) _ _ 9 10 (mv_two (heap_alloc_new w _) rfl rfl rfl rfl) rfl (by simp) (by omega) _ 0 (.inr (.inr ⟨ex3, by simp, _, rfl, ex1⟩)))
  have HB1 := Lib.hid hb1
  have HN := Lib.hid (fun W x => num9 W x)
  have heq := eqMv
  clear hb1
  go_enter Try.func7, Try.ntmps7
  go_wp2_with (first | (go_at_call 8; refine H1.out.mono ?_; rintro e w2 hp; obtain ⟨hb2, u2, rfl, hu2⟩ := hp; obtain ⟨ag2, c2, rfl⟩ := own_shape hu2; refine Hid.out ?_))
  refine Lib.hid ?_
  have HB2 := Lib.hid (HB1.out.trans (hb2.mono HB1.out.size))
  obtain ⟨g2, rfl, hc2⟩ := row31 hu2 (by simp)
  have f0 := hc2 0 (.int .i64 9) rfl
  have hb3 : Below w2.heap.size w2 (w2.alloc (.cells #[.int .i64 0, .int .i64 1, .int .i64 1, .int .i64 2] 31)) := (Below.refl _ _).alloc (Nat.le_refl _) _
  have H3 := Lib.hid (order8 (w2.alloc (.cells #[.int .i64 0, .int .i64 1, .int .i64 1, .int .i64 2] 31)) _ _ 9 10 (mv_two (heap_alloc_new w2 _) rfl rfl rfl rfl) rfl (by simp) (by omega) _ 0 (.inr (.inr ⟨ex4, by simp, _, rfl, ex2⟩)))
  have HF0 := Lib.hid f0
  have HB3 := Lib.hid hb3
  clear hb2 hu2 hc2 f0 hb3
  go_wp2_with (first | (go_at_call 8; refine H3.out.mono ?_; rintro e w4 hp; obtain ⟨hb4, u4, rfl, hu4⟩ := hp; obtain ⟨ag4, c4, rfl⟩ := own_shape hu4; refine Hid.out ?_))
  refine Lib.hid ?_
  have hb24 := HB3.out.trans (hb4.mono HB3.out.size)
  have HB4 := Lib.hid (HB2.out.trans (hb24.mono HB2.out.size))
  obtain ⟨g4, rfl, hc4⟩ := row31 hu4 (by simp)
  have e0 := hc4 0 (.int .i64 0) rfl
  have e1 := hc4 1 (.int .i64 1) rfl
  have f0 : w4.cell? ⟨g2, 0, none⟩ = some (.int .i64 9) := (hb24.cell (World.block_lt_of_cell? w2 _ HF0.out)).trans HF0.out
  clear hb4 hu4 hc4 hb24
  go_wp2_with (first | (go_at_call 9; refine (HN.out _ _).mono ?_; rintro e w6 ⟨rfl, hw6⟩; obtain rfl := hw6.symm))
  go_ret
  exact ⟨rfl, HB4.out⟩
end Go.Proofs.Ytihnmhemhcmmoaa
