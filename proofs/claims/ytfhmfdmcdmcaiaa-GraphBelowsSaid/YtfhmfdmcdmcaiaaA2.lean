/- The walks of Push, Pop and Swap of the heap's own methods. -/
import Derived.Test.YtfhmfdmcdmcaiaaA1
namespace Go.Proofs.Ytfhmfdmcdmcaiaa
open Go Go.RowKit
set_option maxHeartbeats 2000000
set_option maxRecDepth 100000

theorem info3 : (Try.prog.info? 3).map (fun i => (i.zero, i.size, i.bytes)) = some (some (.int .i64 0), 1, 8) := by kernel_rfl
def HeapPost (base p : Nat) (vn : Value) (w : World) (g : Option Nat) (h' : List Nat) (w' : World) : Prop :=
  Two p g w w' ∧ ∃ g', HeapIs base p vn w' g' h' ∧ (g' = g ∨ ∃ x, g' = some x ∧ w.heap.size ≤ x)
theorem setAt {w : World} {X i : Nat} {cs : Array Value} {t : TypeId} {fr : Nat × Nat} (v : Value) (h : w.heap[X]? = some (.cells cs t fr)) : (w.setCell ⟨X, i, none⟩ v).heap[X]? = some (.cells (cs.setIfInBounds i v) t fr) := by
  simp [World.setCell, Array.getElem?_modify, h]
theorem HeapIs.drew {base p : Nat} {vn : Value} {w : World} {g : Option Nat} {h : List Nat} (H : HeapIs base p vn w g h) : HeapIs base p vn w.drew g h := ⟨H.pb, H.sh⟩
theorem Two.drew {p : Nat} {g : Option Nat} {w w' : World} (h : Two p g w w') : Two p g w w'.drew := ⟨h.os, h.tape, h.output, h.size, h.block⟩
theorem Two.set {p : Nat} {g : Option Nat} {w w' : World} (h : Two p g w w') (b i : Nat) (v : Value) (hb : b = p ∨ some b = g) : Two p g w (w'.setCell ⟨b, i, none⟩ v) :=
  ⟨h.os, h.tape, h.output, by simpa [World.setCell] using h.size, fun k hk hp hg => (Below.heap_setCell _ _ _ _ (by
    rcases hb with e | e
    · show k ≠ b; omega
    · show k ≠ b; exact fun e2 => hg (by rw [e2, e]))).trans (h.block k hk hp hg)⟩
theorem HeapIs.setRow {base p y : Nat} {vn : Value} {w : World} {h : List Nat} (H : HeapIs base p vn w (some y) h) (i x : Nat) : HeapIs base p vn (w.setCell ⟨y, i, none⟩ (iv x)) (some y) (h.set i x) := by
  have hyp := (H.gb y rfl).2.2
  obtain ⟨hp, a, cap, h1, h2, h3⟩ := H
  refine ⟨hp, a, cap, ?_, ⟨by simp, ?_⟩, by rw [List.length_set]; exact h3⟩
  · rw [List.length_set]; exact (Below.heap_setCell _ _ _ _ (Ne.symm hyp)).trans h1
  · rw [List.length_set]
    rcases h2.2 with ⟨e, _⟩ | ⟨g, c', cur, e, hB, hg, hnc, hcm, hsz, htk⟩
    · rw [e] at h3; cases h3
    · have hgy : g = y := by rw [e] at h3; simpa [Value.ownBlock] using h3
      subst hgy
      refine .inr ⟨g, c', _, e, hB, setAt _ hg, hnc, hcm, by simpa using hsz, ?_⟩
      rw [Array.toList_setIfInBounds, List.take_set, htk, List.map_set]
theorem HeapIs.setL {base p y m cap : Nat} {vn : Value} {w : World} {h : List Nat} {x : Nat} (H : HeapIs base p vn w (some y) (h ++ [x])) (hm : h.length = m) (hc : w.heap[p]? = some (.cells #[.slice (some ⟨y, 0, none⟩) (m + 1) cap, vn] 44)) : HeapIs base p vn (w.setCell ⟨p, 0, none⟩ (.slice (some ⟨y, 0, none⟩) m cap)) (some y) h := by
  have hyp := (H.gb y rfl).2.2
  obtain ⟨hp, a, cap', h1, h2, h3⟩ := H
  rw [List.length_append, List.length_singleton, hm] at h1 h2 h3
  rw [h1] at hc
  simp at hc
  obtain ⟨rfl, rfl⟩ := hc
  refine ⟨hp, some ⟨y, 0, none⟩, cap', ?_, ⟨by simp, ?_⟩, rfl⟩
  · rw [hm]; exact setAt (cs := #[_, vn]) _ h1
  · rcases h2.2 with ⟨e, _⟩ | ⟨g, c', cur, e, hB, hg, hnc, hcm, hsz, htk⟩
    · cases e
    · simp only [Value.slice.injEq, Option.some.injEq, Addr.mk.injEq, and_true] at e
      obtain ⟨⟨rfl⟩, _, rfl⟩ := e
      refine .inr ⟨y, cap', cur, by rw [hm], hB, (Below.heap_setCell _ _ _ _ hyp).trans hg, by omega, hcm, hsz, ?_⟩
      rw [hm]
      have h4 : List.take (m * 1) (List.take ((m + 1) * 1) cur.toList) = List.take (m * 1) cur.toList := by rw [List.take_take]; congr 1; omega
      rw [← h4, htk, List.map_append, List.take_append_of_le_length (by simp [hm]), List.take_of_length_le (by simp [hm])]
theorem pop71 {base p : Nat} {vn : Value} {w : World} {g : Option Nat} {h : List Nat} {x : Nat} (H : HeapIs base p vn w g (h ++ [x])) :
    Calls Try.prog 71 #[.pointer (some ⟨p, 0, none⟩)] w fun e w' => e = .returned (.iface 3 (iv x)) ∧ HeapPost base p vn w g h w' := by
  obtain ⟨y, cap, rfl, h1, h2, h3, h4, h5, h6⟩ := H.cells (by simp)
  have f1 := h4 h.length (by simp)
  rw [show (h ++ [x]).getD h.length 0 = x by simp [List.getD_eq_getElem?_getD]] at f1
  obtain ⟨m, hm⟩ : ∃ m, h.length = m := ⟨_, rfl⟩
  rw [List.length_append, List.length_singleton, hm] at h1 h2
  have f0 : w.cell? ⟨p, 0, none⟩ = some (.slice (some ⟨y, 0, none⟩) (m + 1) cap) := cell_of h1 (i := 0) rfl
  have z0 := thaw_of h1 0
  have r0 := cell_regrown f0
  rw [hm] at f1
  have r1 := cell_regrown f1
  have b0 : (0 : Int) ≤ (m : Int) := by omega
  have b1 : (m : Int) < (m : Int) + 1 := by omega
  have hmm : m + 1 ≤ maxLen := by omega
  unfold maxLen at hmm
  have hwr : wrap64 (m : Int) = (m : Int) := IntWalk.wrap64_in _ (by omega)
  have HH := Lib.hid H
  have HM := Lib.hid hm
  have HMM := Lib.hid h2
  clear h4 h5 H hm
  go_enter Try.func71, Try.ntmps71
  go_upto_region 1 with fail
  refine wp_region_quiet_below (by kernel_rfl) (by kernel_rfl) ?_
  iterate 13 go_big_quiet_step (fail)
  refine wpQuiet_nil ?_
  intro w1 hw'
  have hb1 : Below w.heap.size w w1 := by obtain ⟨⟨dq, osq⟩, hw''⟩ := hw'; subst hw''; exact below_regrown _ dq osq
  clear r0 r1 hw' hwr
  have g0 : w1.cell? ⟨p, 0, none⟩ = some (.slice (some ⟨y, 0, none⟩) (m + 1) cap) := (hb1.cell (World.block_lt_of_cell? w _ f0)).trans f0
  have y0 : w1.frozen? ⟨p, 0, none⟩ = false := by rw [World.frozen?_of_block (hb1.block p (lt_of h1))]; exact z0
  have HB1 := Lib.hid hb1
  have hw1 : IntKind.i64.wrap (m : Int) = (m : Int) := by rw [IntWalk.i64_left]; exact IntWalk.wrap64_in _ (by omega)
  have b2 : (m : Int) ≤ (cap : Int) := by omega
  have HP : Hid (HeapPost base p vn w (some y) h (w1.setCell ⟨p, 0, none⟩ (.slice (some ⟨y, 0, none⟩) m cap)).drew) := Lib.hid ⟨((Two.of hb1).set p 0 _ (.inl rfl)).drew, _, ((HH.out.any hb1).setL HM.out ((hb1.block p (lt_of h1)).trans h1)).drew, .inl rfl⟩
  clear hb1 f0 z0 f1 h1
  go_upto_region 2 with fail
  go_region
  all_goals
    go_wp2_with fail
    go_ret
    exact ⟨rfl, HP.out⟩
theorem swap73 {base p : Nat} {vn : Value} {w : World} {g : Option Nat} {h : List Nat} (H : HeapIs base p vn w g h) (i j : Nat) (hi : i < h.length) (hj : j < h.length) (hij : i ≠ j) :
    Calls Try.prog 73 #[.pointer (some ⟨p, 0, none⟩), iv i, iv j] w fun e w' => (∃ u, e = .returned u) ∧ HeapPost base p vn w g (swapL h i j) w' := by
  obtain ⟨y, cap, rfl, h1, h2, h3, h4, h5, h6⟩ := H.cells (by omega)
  have f0 := cell_of h1 (i := 0) rfl
  have f2 := h4 i hi
  have f3 := h4 j hj
  have z2 := h5 i
  have z3 := h5 j
  have b1 : (i : Int) < (h.length : Int) := by omega
  have b2 : (j : Int) < (h.length : Int) := by omega
  obtain ⟨u, hu⟩ : ∃ u, h.getD i 0 = u := ⟨_, rfl⟩
  obtain ⟨t, ht⟩ : ∃ t, h.getD j 0 = t := ⟨_, rfl⟩
  rw [hu] at f2
  rw [ht] at f3
  have HH := Lib.hid H
  have HU := Lib.hid (And.intro hu ht)
  clear h4 h5 H hu ht
  go_enter Try.func73, Try.ntmps73
  go_upto_region 0 with fail
  go_region
  all_goals
    go_wp2_with fail
    go_end0
    refine ⟨⟨_, rfl⟩, ((Two.refl _ _ _).set y i _ (.inr rfl)).set y j _ (.inr rfl) |>.drew, _, ?_, .inl rfl⟩
    obtain ⟨e1, e2⟩ := HU.out
    have := ((HH.out.setRow i t).setRow j u).drew
    unfold swapL
    rw [e1, e2]
    exact this
theorem HeapIs.pushed {base p : Nat} {vn : Value} {w wX w2 : World} {g : Option Nat} {h : List Nat} {x gg cap c : Nat} {a : Option Addr} (H : HeapIs base p vn w g h) (hp : w.heap[p]? = some (.cells #[.slice a h.length c, vn] 44)) (hbX : Below w.heap.size w wX)
    (hown : w2.ownsRow base 3 1 (.slice (some ⟨gg, 0, none⟩) (h.length + 1) cap) (h.length + 1) (h.map iv ++ [iv x])) (hgrow : wX.grownBy w2 (Value.slice a h.length c).ownBlock)
    (hat : (Value.slice a h.length c).ownBlock = some gg ∨ w.heap.size ≤ gg) : (∃ v, w2.cell? ⟨p, 0, none⟩ = some v) ∧ w2.frozen? ⟨p, 0, none⟩ = false ∧ HeapPost base p vn w g (h ++ [x]) (w2.setCell ⟨p, 0, none⟩ (.slice (some ⟨gg, 0, none⟩) (h.length + 1) cap)) := by
  have hgb := H.gb
  obtain ⟨hpb, a', cap', h1, h2, h3⟩ := H
  rw [h1] at hp
  simp at hp
  obtain ⟨rfl, rfl⟩ := hp
  have hpl := lt_of h1
  have hpg : some p ≠ g := fun e => (hgb p e.symm).2.2 rfl
  have hp2 : w2.heap[p]? = some (.cells #[.slice a' h.length cap', vn] 44) := (hgrow.block p (Nat.lt_of_lt_of_le hpl hbX.size) (by rw [h3]; exact hpg)).trans ((hbX.block p hpl).trans h1)
  have hgp : gg ≠ p := by
    rcases hat with e | e
    · rw [h3] at e
      exact (hgb gg e).2.2
    · omega
  refine ⟨⟨_, cell_of hp2 (i := 0) rfl⟩, thaw_of hp2 0, (Two.trans (Two.of hbX) (.inl rfl) (Two.grown (p := p) (by rw [← h3]; exact hgrow))).set p 0 _ (.inl rfl), some gg, ⟨hpb, some ⟨gg, 0, none⟩, cap, ?_, ⟨by simp, ?_⟩, rfl⟩, ?_⟩
  · rw [List.length_append, List.length_singleton]; exact setAt (cs := #[_, vn]) _ hp2
  · rcases hown.2 with ⟨e, _⟩ | ⟨g', c', cur, e, hB, hg, hnc, hcm, hsz, htk⟩
    · cases e
    · simp only [Value.slice.injEq, Option.some.injEq, Addr.mk.injEq, and_true] at e
      obtain ⟨⟨rfl⟩, _, rfl⟩ := e
      refine .inr ⟨gg, cap, cur, by simp, hB, (Below.heap_setCell _ _ _ _ hgp).trans hg, by simpa using hnc, hcm, hsz, ?_⟩
      simpa using htk
  · rcases hat with e | e
    · rw [h3] at e; exact .inl e.symm
    · exact .inr ⟨gg, rfl, e⟩
theorem assert_int (w : World) (x : Int) : (Instr.typeAssert (.iface 3 (.int .i64 x)) 20 3 false).run Try.prog w = .ok (.int .i64 x) w := by kernel_rfl
theorem push72 {base p : Nat} {vn : Value} {w : World} {g : Option Nat} {h : List Nat} (H : HeapIs base p vn w g h) (hb : base ≤ w.heap.size) (hl : h.length ≤ 1000) (x : Nat) :
    Calls Try.prog 72 #[.pointer (some ⟨p, 0, none⟩), .iface 3 (iv x)] w fun e w' => (∃ u, e = .returned u) ∧ HeapPost base p vn w g (h ++ [x]) w' := by
  have HH := Lib.hid H
  obtain ⟨hp, a, c, h1, h2, h3⟩ := H
  obtain ⟨i9, hi9, hz90, hz91, hz92⟩ := info_parts info3
  have f0 := cell_of h1 (i := 0) rfl
  have HROW := Lib.hid h2
  have HP1 := Lib.hid h1
  have HBS := Lib.hid hb
  obtain ⟨m, hm⟩ : ∃ m, h.length = m := ⟨_, rfl⟩
  have HPU := Lib.hid (fun (wX w2 : World) (gg cap : Nat) => HeapIs.pushed (wX := wX) (w2 := w2) (x := x) (gg := gg) (cap := cap) HH.out h1)
  rw [hm] at f0 HROW HPU hl
  have hta := assert_int
  have f1 : (w.alloc (.cells #[.int .i64 (x : Int)] 3)).cell? ⟨p, 0, none⟩ = some (.slice a h.length c) := (World.cell?_of_block (heap_alloc_old w _ (lt_of h1))).trans (cell_of h1 (i := 0) rfl)
  rw [hm] at f1
  clear h1 h2 h3 hb hm
  go_enter Try.func72, Try.ntmps72
  go_upto_region 0 with fail
  go_region_law (refine step_append_lies _ (by rfl) _ _ _ (by rfl) base 3 i9 _ 1 8 Try.underlying26 hi9 hz90 hz91 hz92 rfl (by decide) _ m (h.map iv) (by rfl) ((HROW.out.alloc _).drew) ⟨w.heap.size, 0, none⟩ 1 1 [iv x] (by rfl) (by rfl) (World.news_of_block (cs := #[iv x]) (t := 3) (fr := (0, 0)) (heap_alloc_new w _)) (by simp [Value.oneCell']) (by omega) (by unfold maxLen; omega) (by omega) (by have := HBS.out; simp; omega) (w.heap.size + 1) (by simp) ?_; intro gg cap w2 hown2 hgrow hat hlt2; obtain ⟨⟨y, b1⟩, b2, hin2⟩ := HPU.out _ w2 gg cap ((Below.refl _ _).alloc (Nat.le_refl _) _).drew hown2 hgrow (hat.imp id (fun e => by omega)); have HIN2 := Lib.hid hin2; clear hown2 hgrow hat hlt2 hin2)
  all_goals
    go_wp2_with fail
    go_end0
    exact ⟨⟨_, rfl⟩, HIN2.out⟩
end Go.Proofs.Ytfhmfdmcdmcaiaa
