/- A row of numbers of one's own is sorted, and each stays once. -/
import Derived.Test.YtfhmfdmcdmcaiaaA5
import Derived.Test.YtfhmfdmcdmcaiaaS0
import Derived.Sort.OwnSortedInts
namespace Go.Proofs.Ytfhmfdmcdmcaiaa
open Go Go.RowKit Go.Sort
set_option maxHeartbeats 2000000
set_option maxRecDepth 100000

/-! ### Plain -/
def once (zs : List Int) : List Int := Lib.compact (zs.mergeSort fun x y => decide (x ≤ y))
theorem getI {l : List Int} {i : Nat} (hi : i < l.length) : l.toArray[i]! = l[i] := by simp [getElem!_pos, hi]
theorem mem_compact {zs : List Int} {x : Int} (h : x ∈ Lib.compact zs) : x ∈ zs := by
  unfold Lib.compact Lib.compactUpTo at h
  obtain ⟨i, hi, rfl⟩ := List.mem_map.1 h
  have hi' : i < zs.length := List.mem_range.1 (List.mem_filter.1 hi).1
  simp [getElem!_pos, hi']
theorem compact_all {zs : List Int} {x : Int} (hx : x ∈ zs) : x ∈ Lib.compact zs := by
  have key : ∀ i, ∀ hi : i < zs.length, zs[i] ∈ Lib.compact zs := by
    intro i
    induction i with
    | zero =>
      intro hi
      unfold Lib.compact Lib.compactUpTo
      exact List.mem_map.2 ⟨0, List.mem_filter.2 ⟨List.mem_range.2 hi, by simp [Lib.keeps]⟩, getI hi⟩
    | succ i ih =>
      intro hi
      by_cases e : zs[i + 1] = zs[i]'(by omega)
      · rw [e]; exact ih (by omega)
      · unfold Lib.compact Lib.compactUpTo
        refine List.mem_map.2 ⟨i + 1, List.mem_filter.2 ⟨List.mem_range.2 hi, ?_⟩, getI hi⟩
        simp only [Lib.keeps, decide_eq_true_eq]
        right
        rw [getI hi, Nat.add_sub_cancel, getI (show i < zs.length by omega)]
        exact e
  obtain ⟨i, hi, e⟩ := List.getElem_of_mem hx
  rw [← e]; exact key i hi
theorem compact_nodup {zs : List Int} (hs : zs.Pairwise (· ≤ ·)) : (Lib.compact zs).Nodup := by
  unfold Lib.compact Lib.compactUpTo
  refine List.pairwise_map.2 ?_
  refine List.Pairwise.imp_of_mem ?_ (List.Pairwise.filter _ (List.pairwise_lt_range (n := zs.length)))
  intro i j hi hj hij e
  have hil : i < zs.length := List.mem_range.1 (List.mem_filter.1 hi).1
  have hjl : j < zs.length := List.mem_range.1 (List.mem_filter.1 hj).1
  have hk := (List.mem_filter.1 hj).2
  simp only [Lib.keeps, decide_eq_true_eq] at hk
  rw [getI hil, getI hjl] at e
  rcases hk with hk | hk
  · omega
  · rw [getI hjl, getI (show j - 1 < zs.length by omega)] at hk
    have h1 : zs[i] ≤ zs[j - 1]'(by omega) := by
      by_cases e2 : i = j - 1
      · subst e2; exact Int.le_refl _
      · exact List.pairwise_iff_getElem.1 hs i (j - 1) hil (by omega) (by omega)
    have h2 : zs[j - 1]'(by omega) ≤ zs[j] := List.pairwise_iff_getElem.1 hs (j - 1) j (by omega) hjl (by omega)
    omega
theorem compact_len (zs : List Int) : (Lib.compact zs).length ≤ zs.length := by
  unfold Lib.compact Lib.compactUpTo
  rw [List.length_map]
  have := List.length_filter_le (Lib.keeps zs.toArray) (List.range zs.length)
  simpa using this
theorem once_mem (zs : List Int) (x : Int) : x ∈ once zs ↔ x ∈ zs := by
  unfold once
  have hp := (List.mergeSort_perm zs fun x y => decide (x ≤ y)).mem_iff (a := x)
  exact ⟨fun h => hp.1 (mem_compact h), fun h => compact_all (hp.2 h)⟩
theorem once_nodup (zs : List Int) : (once zs).Nodup := by
  unfold once
  refine compact_nodup ?_
  have h := List.pairwise_mergeSort (le := fun (x y : Int) => decide (x ≤ y)) (fun a b c h1 h2 => by simp at h1 h2 ⊢; omega) (fun a b => by simp; omega) zs
  exact h.imp (fun h => by simpa using h)

/-! ### In memory -/
theorem own_shape {w : World} {B e sz : Nat} {v : Value} {n : Nat} {xs : List Value} (h : w.ownsRow B e sz v n xs) : ∃ ao cap, v = .slice ao n cap := by
  rcases h.2 with ⟨rfl, rfl⟩ | ⟨g, cap, cur, rfl, _⟩
  · exact ⟨_, _, rfl⟩
  · exact ⟨_, _, rfl⟩
theorem sort28 {base n c : Nat} {a : Option Addr} {zs : List Int} {w : World} (h : w.ownsRow base 3 1 (.slice a n c) n (zs.map (Value.int .i64))) (hn : n ≤ 1000000) :
    Calls Try.prog 28 #[.slice a n c] w fun e w' => (∃ u, e = .returned u) ∧ w'.ownsRow base 3 1 (.slice a n c) n ((zs.mergeSort fun x y => decide (x ≤ y)).map (Value.int .i64)) ∧ w.grownBy w' (Value.slice a n c).ownBlock := by
  have hl : zs.length = n := by have := h.1; simpa using this
  rcases h.2 with ⟨e, h0⟩ | ⟨g, cap, cur, e, hB, hg, hnc, hcm, hsz, htk⟩
  · subst h0
    obtain rfl : zs = [] := List.length_eq_zero_iff.1 hl
    refine (Try.slices_Sort_int_none a c w).mono ?_
    rintro e w' ⟨rfl, rfl⟩
    exact ⟨⟨_, rfl⟩, by simpa using h, ⟨rfl, rfl, rfl, Nat.le_refl _, fun _ _ _ => rfl⟩⟩
  · simp only [Value.slice.injEq] at e
    obtain ⟨rfl, _, rfl⟩ := e
    subst hl
    refine (Try.slices_Sort_int g 0 c zs w (holds_of_blockI hg (by simpa using htk)) (lt_of hg) (by omega)).mono ?_
    rintro e w' ⟨rfl, q, os, rfl⟩
    exact ⟨⟨_, rfl⟩, ownsRow_sortedI (List.length_mergeSort zs) hB hg hnc hcm hsz, grownBy_sortedI _⟩
theorem own_shrink {w : World} {base e g n k c : Nat} {xs : List Value} (h : w.ownsRow base e 1 (.slice (some ⟨g, 0, none⟩) n c) n xs) (hk : k ≤ n) : w.ownsRow base e 1 (.slice (some ⟨g, 0, none⟩) k c) k (xs.take k) := by
  have h1 := h.1
  rcases h.2 with ⟨e, _⟩ | ⟨g', cap, cur, e, hB, hg, hnc, hcm, hsz, htk⟩
  · cases e
  · simp only [Value.slice.injEq, Option.some.injEq, Addr.mk.injEq, and_true] at e
    obtain ⟨⟨rfl⟩, _, rfl⟩ := e
    refine ⟨by rw [List.length_take]; omega, .inr ⟨g, c, cur, rfl, hB, hg, by omega, hcm, hsz, ?_⟩⟩
    rw [← htk, List.take_take]
    congr 1
    omega
theorem compact29 {base n c : Nat} {a : Option Addr} {zs : List Int} {w : World} (h : w.ownsRow base 3 1 (.slice a n c) n (zs.map (Value.int .i64))) (hn : n ≤ 1000000) :
    Calls Try.prog 29 #[.slice a n c] w fun e w' => e = .returned (.slice a (Lib.compact zs).length c) ∧ w'.ownsRow base 3 1 (.slice a (Lib.compact zs).length c) (Lib.compact zs).length ((Lib.compact zs).map (Value.int .i64)) ∧ w.grownBy w' (Value.slice a n c).ownBlock := by
  have hl : zs.length = n := by have := h.1; simpa using this
  rcases h.2 with ⟨e, h0⟩ | ⟨g, cap, cur, e, hB, hg, hnc, hcm, hsz, htk⟩
  · subst h0
    obtain rfl : zs = [] := List.length_eq_zero_iff.1 hl
    refine (Try.slices_Compact_int_empty a c w).mono ?_
    rintro e w' ⟨rfl, rfl⟩
    exact ⟨rfl, h, ⟨rfl, rfl, rfl, Nat.le_refl _, fun _ _ _ => rfl⟩⟩
  · simp only [Value.slice.injEq] at e
    obtain ⟨rfl, _, rfl⟩ := e
    subst hl
    refine (Try.slices_Compact_int g 0 c zs w (holds_of_blockI hg (by simpa using htk)) (by omega) hnc).mono ?_
    rintro e w' ⟨rfl, q, rfl⟩
    have hcl := compact_len zs
    have h3 : (Lib.compact zs ++ List.replicate (zs.length - (Lib.compact zs).length) 0).length = zs.length := by simp; omega
    have h4 := ownsRow_sortedI (n := q) (os := #[]) h3 hB hg hnc hcm hsz
    have h5 := grownBy_sortedI (w := w) (n := q) (os := #[]) (g := g) (Lib.compact zs ++ List.replicate (zs.length - (Lib.compact zs).length) 0).toArray
    rw [grow_empty] at h4 h5
    refine ⟨rfl, ?_, h5⟩
    have h6 := own_shrink h4 hcl
    rw [← List.map_take, List.take_left] at h6
    exact h6
end Go.Proofs.Ytfhmfdmcdmcaiaa
