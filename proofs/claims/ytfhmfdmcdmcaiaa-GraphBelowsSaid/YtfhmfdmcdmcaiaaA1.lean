/- The walks of the heap's own methods. -/
import Derived.Test.YtfhmfdmcdmcaiaaA0
namespace Go.Proofs.Ytfhmfdmcdmcaiaa
open Go Go.RowKit
set_option maxHeartbeats 2000000
set_option maxRecDepth 100000

abbrev iv (i : Nat) : Value := .int .i64 (i : Int)
theorem cell_of {w : World} {b i : Nat} {cs : Array Value} {t : TypeId} {fr : Nat × Nat} {v : Value} (h : w.heap[b]? = some (.cells cs t fr)) (hv : cs[i]? = some v) : w.cell? ⟨b, i, none⟩ = some v := by
  simp [World.cell?, h, hv]
theorem thaw_of {w : World} {b : Nat} {cs : Array Value} {t : TypeId} (h : w.heap[b]? = some (.cells cs t)) (i : Nat) : w.frozen? ⟨b, i, none⟩ = false := by
  simp [World.frozen?, h]
theorem lt_of {w : World} {b : Nat} {o : Obj} (h : w.heap[b]? = some o) : b < w.heap.size := (Array.getElem?_eq_some_iff.1 h).1
/-- strings lie in memory -/
def StrRow (w : World) (v : Value) (nm : List ByteArray) : Prop := ∃ a c, v = .slice a nm.length c ∧ nm.length ≤ c ∧ c ≤ maxLen ∧ (nm = [] ∨ ∃ b o, a = some ⟨b, o, none⟩ ∧ ∀ (i : Nat) (x : ByteArray), nm[i]? = some x → w.cell? ⟨b, o + i, none⟩ = some (.string x))
theorem StrRow.below {w w' : World} {v : Value} {l : List ByteArray} (h : StrRow w v l) (hb : Below w.heap.size w w') : StrRow w' v l := by
  obtain ⟨a, c, h1, h2, h3, h4⟩ := h
  refine ⟨a, c, h1, h2, h3, ?_⟩
  rcases h4 with h4 | ⟨b, o, h6, h7⟩
  · exact .inl h4
  · exact .inr ⟨b, o, h6, fun i m hm => (hb.cell (World.block_lt_of_cell? w _ (h7 i m hm))).trans (h7 i m hm)⟩
/-- the heap lies in block p -/
structure HeapIs (base p : Nat) (vn : Value) (w : World) (g : Option Nat) (h : List Nat) : Prop where
  pb : base ≤ p
  sh : ∃ a cap, w.heap[p]? = some (.cells #[.slice a h.length cap, vn] 44) ∧ w.ownsRow base 3 1 (.slice a h.length cap) h.length (h.map iv) ∧ (Value.slice a h.length cap).ownBlock = g
/-- p and the row g may have changed -/
structure Two (p : Nat) (g : Option Nat) (w w' : World) : Prop where
  os : w'.os = w.os
  tape : w'.tape = w.tape
  output : w'.output = w.output
  size : w.heap.size ≤ w'.heap.size
  block : ∀ k, k < w.heap.size → k ≠ p → some k ≠ g → w'.heap[k]? = w.heap[k]?
theorem Two.refl (p : Nat) (g : Option Nat) (w : World) : Two p g w w := ⟨rfl, rfl, rfl, Nat.le_refl _, fun _ _ _ _ => rfl⟩
theorem Two.trans {p : Nat} {g g' : Option Nat} {a b c : World} (h : Two p g a b) (hg : g' = g ∨ ∃ x, g' = some x ∧ a.heap.size ≤ x) (h' : Two p g' b c) : Two p g a c := by
  refine ⟨h'.os.trans h.os, h'.tape.trans h.tape, h'.output.trans h.output, Nat.le_trans h.size h'.size, fun k hk hp hkg => ?_⟩
  refine (h'.block k (Nat.lt_of_lt_of_le hk h.size) hp ?_).trans (h.block k hk hp hkg)
  rcases hg with hg | ⟨x, hg, hx⟩
  · rw [hg]; exact hkg
  · rw [hg]; intro e; obtain rfl := Option.some.inj e; omega
theorem Two.of {p : Nat} {g : Option Nat} {w w' : World} (h : Below w.heap.size w w') : Two p g w w' := ⟨h.os, h.tape, h.output, h.size, fun k hk _ _ => h.block k hk⟩
theorem Two.grown {p : Nat} {g : Option Nat} {w w' : World} (h : w.grownBy w' g) : Two p g w w' := ⟨h.os, h.tape, h.output, h.size, fun k hk _ hg => h.block k hk hg⟩
theorem Two.below {p B : Nat} {g : Option Nat} {w w' : World} (h : Two p g w w') (hB : B ≤ p) (hg : ∀ x, g = some x → B ≤ x) (hs : B ≤ w.heap.size) : Below B w w' :=
  ⟨h.os, h.tape, h.output, h.size, fun k hk => h.block k (by omega) (by omega) (fun e => by have := hg k e.symm; omega)⟩
theorem HeapIs.gb {base p : Nat} {vn : Value} {w : World} {g : Option Nat} {h : List Nat} (H : HeapIs base p vn w g h) : ∀ x, g = some x → base ≤ x ∧ x < w.heap.size ∧ x ≠ p := by
  intro x hx
  obtain ⟨a, cap, h1, h2, h3⟩ := H.sh
  rcases h2.2 with ⟨e, _⟩ | ⟨g', c', cur, e, hB, hg, _⟩
  · rw [e] at h3; rw [← h3] at hx; cases hx
  · rw [e] at h3
    have : g' = x := by rw [← h3] at hx; simpa [Value.ownBlock] using hx
    subst this
    refine ⟨hB, lt_of hg, fun e2 => ?_⟩
    rw [e2, h1] at hg
    simp at hg
theorem HeapIs.any {base p : Nat} {vn : Value} {w w' : World} {g : Option Nat} {h : List Nat} (H : HeapIs base p vn w g h) (hb : Below w.heap.size w w') : HeapIs base p vn w' g h := by
  have hgb := H.gb
  obtain ⟨hp, a, cap, h1, h2, h3⟩ := H
  refine ⟨hp, a, cap, (hb.block p (lt_of h1)).trans h1, h2.kept (row := none) ⟨hb.os, hb.tape, hb.output, hb.size, fun k hk _ => hb.block k hk⟩ ?_, h3⟩
  cases h4 : (Value.slice a h.length cap).ownBlock with
  | none => exact .inl rfl
  | some x => exact .inr (by simp)
theorem HeapIs.cells {base p : Nat} {vn : Value} {w : World} {g : Option Nat} {h : List Nat} (H : HeapIs base p vn w g h) (h0 : 0 < h.length) : ∃ x cap, g = some x ∧ w.heap[p]? = some (.cells #[.slice (some ⟨x, 0, none⟩) h.length cap, vn] 44) ∧ h.length ≤ cap ∧ cap ≤ maxLen ∧ (∀ i, i < h.length → w.cell? ⟨x, i, none⟩ = some (iv (h.getD i 0))) ∧ (∀ i, w.frozen? ⟨x, i, none⟩ = false) ∧ x < w.heap.size := by
  obtain ⟨hp, a, cap, h1, h2, h3⟩ := H
  have hc := fun g hg => h2.cells (g := g) hg
  rcases h2.2 with ⟨_, e⟩ | ⟨x, c', cur, e, hB, hg, hnc, hcm, _⟩
  · omega
  · simp only [Value.slice.injEq] at e
    obtain ⟨rfl, _, rfl⟩ := e
    refine ⟨x, cap, h3.symm, h1, hnc, hcm, fun i hi => ?_, fun i => thaw_of hg i, lt_of hg⟩
    have := hc x rfl i (iv (h.getD i 0)) (by rw [List.getElem?_map, List.getElem?_eq_getElem hi]; simp [List.getD_eq_getElem?_getD, List.getElem?_eq_getElem hi])
    have e : (⟨x, 0, none⟩ : Addr).add i = ⟨x, i, none⟩ := by cases i <;> simp [Addr.add]
    rwa [e] at this
theorem len20 {base p : Nat} {vn : Value} {w : World} {g : Option Nat} {h : List Nat} (H : HeapIs base p vn w g h) : Calls Try.prog 20 #[.pointer (some ⟨p, 0, none⟩)] w fun e w' => e = .returned (iv h.length) ∧ w' = w := by
  obtain ⟨hp, a, cap, h1, h2, h3⟩ := H
  have f0 := cell_of h1 (i := 0) rfl
  clear h1 h2 h3
  go_enter Try.func20, Try.ntmps20
  go_wp2_with fail
  go_ret
  exact ⟨rfl, rfl⟩
theorem less70 {base p : Nat} {vn : Value} {w : World} {g : Option Nat} {h : List Nat} {nm : List ByteArray} (H : HeapIs base p vn w g h) (hn : StrRow w vn nm) (hlt : ∀ x ∈ h, x < nm.length) (i j : Nat) (hi : i < h.length) (hj : j < h.length) :
    Calls Try.prog 70 #[.pointer (some ⟨p, 0, none⟩), iv i, iv j] w fun e w' => e = .returned (.bool (ltN nm (h.getD i 0) (h.getD j 0))) ∧ Below w.heap.size w w' := by
  obtain ⟨x, cap, rfl, h1, h2, h3, h4, h5, h6⟩ := H.cells (by omega)
  have hx : ∀ k, k < h.length → h.getD k 0 < nm.length := fun k hk => hlt _ (by rw [List.getD_eq_getElem?_getD, List.getElem?_eq_getElem hk]; exact List.getElem_mem _)
  have hxi := hx i hi
  have hxj := hx j hj
  have f2 := h4 i hi
  have f3 := h4 j hj
  unfold ltN
  obtain ⟨u, hu⟩ : ∃ u, h.getD i 0 = u := ⟨_, rfl⟩
  obtain ⟨t, ht⟩ : ∃ t, h.getD j 0 = t := ⟨_, rfl⟩
  rw [hu] at hxi f2 ⊢
  rw [ht] at hxj f3 ⊢
  obtain ⟨a, c, rfl, hc1, hc2, hc3⟩ := hn
  rcases hc3 with e | ⟨bn, on, rfl, hcell⟩
  · rw [e] at hxi; simp at hxi
  obtain ⟨su, hsu⟩ : ∃ s, nm[u]? = some s := ⟨_, List.getElem?_eq_getElem hxi⟩
  obtain ⟨st, hst⟩ : ∃ s, nm[t]? = some s := ⟨_, List.getElem?_eq_getElem hxj⟩
  rw [show nm.getD u ByteArray.empty = su by rw [List.getD_eq_getElem?_getD, hsu]; rfl, show nm.getD t ByteArray.empty = st by rw [List.getD_eq_getElem?_getD, hst]; rfl]
  have f0 := cell_of h1 (i := 0) rfl
  have f1 := cell_of h1 (i := 1) rfl
  have f4 := hcell u su hsu
  have f5 := hcell t st hst
  have r0 := cell_regrown f0
  have r1 := cell_regrown f1
  have r2 := cell_regrown f2
  have r3 := cell_regrown f3
  have r4 := cell_regrown f4
  have r5 := cell_regrown f5
  have b1 : (i : Int) < (h.length : Int) := by omega
  have b2 : (j : Int) < (h.length : Int) := by omega
  have b3 : (u : Int) < (nm.length : Int) := by omega
  have b4 : (t : Int) < (nm.length : Int) := by omega
  clear hx hlt H h4 h5 hcell hsu hst hu ht f0 f1 f2 f3 f4 f5 h1
  go_enter Try.func70, Try.ntmps70
  go_upto_region 1 with fail
  refine wp_region_quiet_below (by kernel_rfl) (by kernel_rfl) ?_
  iterate 28 go_big_quiet_step (fail)
  refine wpQuiet_nil ?_; intro _ hw'; obtain ⟨⟨dq, osq⟩, hw''⟩ := hw'; subst hw''
  go_wp2_with fail
  go_ret
  exact ⟨rfl, below_regrown _ dq osq⟩
end Go.Proofs.Ytfhmfdmcdmcaiaa
