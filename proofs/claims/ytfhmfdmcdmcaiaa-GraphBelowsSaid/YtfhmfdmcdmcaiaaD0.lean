/- What the order is, in plain words: each once, behind all that it wants. -/
import Derived.Test.YtfhmfdmcdmcaiaaC3
namespace Go.Proofs.Ytfhmfdmcdmcaiaa
open Go
set_option maxHeartbeats 1000000

structure OutOk (nm : List ByteArray) (E : Nat → List Int) (out : List Nat) : Prop where
  nd : out.Nodup
  lt : ∀ x ∈ out, x < nm.length
  be : ∀ i x, out[i]? = some x → ∀ z ∈ E x, z.toNat ∈ out.take i
theorem go_ok (nm : List ByteArray) (E : Nat → List Int) : ∀ f out, OutOk nm E out → OutOk nm E (goO nm E f out)
  | 0, out, h => h
  | f + 1, out, h => by
    rw [goO]
    cases hb : bestP nm E out nm.length with
    | none => exact h
    | some b =>
      obtain ⟨h1, h2, _⟩ := best_some _ b hb
      unfold nextP at h2
      rw [Bool.and_eq_true] at h2
      have hbo : b ∉ out := by simpa using h2.1
      refine go_ok nm E f _ ⟨?_, ?_, ?_⟩
      · rw [List.nodup_append]
        refine ⟨h.nd, by simp, fun a ha b' hb' => ?_⟩
        simp at hb'
        rw [hb']
        exact fun e => hbo (by rw [← e]; exact ha)
      · intro x hx
        rw [List.mem_append, List.mem_singleton] at hx
        rcases hx with hx | hx
        · exact h.lt x hx
        · rw [hx]; exact h1
      · intro i x hx z hz
        by_cases hi : i < out.length
        · rw [List.getElem?_append_left hi] at hx
          rw [List.take_append_of_le_length (by omega)]
          exact h.be i x hx z hz
        · have hi2 : i = out.length := by
            have := (List.getElem?_eq_some_iff.1 hx).1
            simp at this
            omega
          subst hi2
          rw [List.getElem?_append_right (Nat.le_refl _), Nat.sub_self] at hx
          obtain rfl : b = x := by simpa using hx
          rw [List.take_append_of_le_length (Nat.le_refl _), List.take_length]
          have := h2.2
          unfold readyP at this
          rw [List.all_eq_true] at this
          simpa using this z hz
theorem order_ok (nm : List ByteArray) (E : Nat → List Int) : OutOk nm E (orderP nm E) :=
  go_ok nm E _ _ ⟨by simp, by simp, fun i x h => by simp at h⟩
theorem order_err {nm : List ByteArray} {needs : List (List ByteArray)} (h : (orderR nm needs).2.2 ≠ 0) : (orderR nm needs).1 = [] := by
  by_cases h1 : 8 < nm.length
  · unfold orderR; rw [if_pos h1]
  cases h2 : dupAt nm with
  | some i => unfold orderR; rw [if_neg h1, h2]
  | none =>
    cases h3 : badE nm needs with
    | some i => unfold orderR; rw [if_neg h1, h2]; simp only [h3]
    | none =>
      cases h4 : cycAt nm.length (orderP nm (edgeRow nm needs)) with
      | some i => unfold orderR; rw [if_neg h1, h2]; simp only [h3, h4]
      | none =>
        unfold orderR at h
        rw [if_neg h1, h2] at h
        simp only [h3, h4] at h
        exact absurd rfl h
theorem order_fine {nm : List ByteArray} {needs : List (List ByteArray)} (h : (orderR nm needs).2.2 = 0) : nm.length ≤ 8 ∧ dupAt nm = none ∧ badE nm needs = none ∧ cycAt nm.length (orderP nm (edgeRow nm needs)) = none ∧ orderR nm needs = (orderP nm (edgeRow nm needs), 0, 0) := by
  by_cases h1 : 8 < nm.length
  · unfold orderR at h; rw [if_pos h1] at h; exact absurd h (by decide)
  cases h2 : dupAt nm with
  | some i => unfold orderR at h; rw [if_neg h1, h2] at h; exact absurd h (by simp)
  | none =>
    cases h3 : badE nm needs with
    | some i => unfold orderR at h; rw [if_neg h1, h2] at h; simp only [h3] at h; exact absurd h (by simp)
    | none =>
      cases h4 : cycAt nm.length (orderP nm (edgeRow nm needs)) with
      | some i => unfold orderR at h; rw [if_neg h1, h2] at h; simp only [h3, h4] at h; exact absurd h (by simp)
      | none =>
        refine ⟨by omega, rfl, rfl, rfl, ?_⟩
        unfold orderR
        rw [if_neg h1, h2]
        simp only [h3, h4]
theorem all_in {n : Nat} {out : List Nat} (h : cycAt n out = none) : ∀ k, k < n → k ∈ out := by
  intro k hk
  unfold cycAt at h
  rw [List.find?_range_eq_none] at h
  have := h k hk
  simpa using this
theorem full_len {n : Nat} {out : List Nat} (hnd : out.Nodup) (hlt : ∀ x ∈ out, x < n) (h : ∀ k, k < n → k ∈ out) : out.length = n := by
  have h1 := len_le hnd hlt
  have h2 := List.nodup_range.length_le_of_subset (l₁ := List.range n) (l₂ := out) (fun x hx => h x (by simpa using hx))
  rw [List.length_range] at h2
  omega
/-- where a name is: the place that is found has it -/
theorem idx_at {nm : List ByteArray} {s : ByteArray} (h : 0 ≤ Lib.idxOfS nm s) : nm[(Lib.idxOfS nm s).toNat]? = some s := by
  have gen : ∀ (zs : List ByteArray) (i : Nat), Lib.idxFromS zs s i = -1 ∨ ((i : Int) ≤ Lib.idxFromS zs s i ∧ zs[(Lib.idxFromS zs s i - i).toNat]? = some s) := by
    intro zs
    induction zs with
    | nil => intro i; exact .inl rfl
    | cons z zs ih =>
      intro i
      rw [Lib.idxFromS]
      split
      · next hz => right; exact ⟨Int.le_refl _, by simp [hz]⟩
      · rcases ih (i + 1) with h | ⟨h1, h2⟩
        · exact .inl h
        · right
          refine ⟨by omega, ?_⟩
          rw [show (Lib.idxFromS zs s (i + 1) - (i : Int)).toNat = (Lib.idxFromS zs s (i + 1) - ((i + 1 : Nat) : Int)).toNat + 1 by omega, List.getElem?_cons_succ]
          exact h2
  rcases gen nm 0 with h1 | ⟨h1, h2⟩
  · unfold Lib.idxOfS at h; omega
  · unfold Lib.idxOfS
    simpa using h2
theorem bad_none {nm : List ByteArray} {needs : List (List ByteArray)} (h : badE nm needs = none) {k : Nat} (hk : k < nm.length) {s : ByteArray} (hs : s ∈ needOf needs k) : 0 ≤ Lib.idxOfS nm s := by
  unfold badE at h
  rw [List.find?_range_eq_none] at h
  have h1 := h k hk
  unfold badRow at h1
  apply Classical.byContradiction
  intro h3
  have : ((needOf needs k).any fun s => decide (Lib.idxOfS nm s < 0)) = true := List.any_eq_true.2 ⟨s, hs, by simp; omega⟩
  rw [this] at h1
  cases h1
structure Holds9 (nm : List ByteArray) (needs : List (List ByteArray)) (out : List Nat) : Prop where
  len : out.length = nm.length
  nd : out.Nodup
  lt : ∀ x ∈ out, x < nm.length
  be : ∀ i x, out[i]? = some x → ∀ s ∈ needOf needs x, ∃ j y : Nat, j < i ∧ out[j]? = some y ∧ nm[y]? = some s
theorem holds_plain {nm : List ByteArray} {needs : List (List ByteArray)} (h : (orderR nm needs).2.2 = 0) : Holds9 nm needs (orderR nm needs).1 := by
  obtain ⟨h1, h2, h3, h4, h5⟩ := order_fine h
  rw [h5]
  have ho := order_ok nm (edgeRow nm needs)
  refine ⟨full_len ho.nd ho.lt (all_in h4), ho.nd, ho.lt, fun i x hx s hs => ?_⟩
  have hxl := ho.lt x (List.mem_of_getElem? hx)
  have h0 := bad_none h3 hxl hs
  have hm := ho.be i x hx (Lib.idxOfS nm s) ((once_mem _ _).2 (List.mem_map.2 ⟨s, hs, rfl⟩))
  obtain ⟨j, hj, e⟩ := List.getElem_of_mem hm
  rw [List.length_take] at hj
  rw [List.getElem_take] at e
  have hj2 : j < (orderP nm (edgeRow nm needs)).length := by omega
  exact ⟨j, _, by omega, by rw [← e]; exact List.getElem?_eq_getElem hj2, idx_at h0⟩
end Go.Proofs.Ytfhmfdmcdmcaiaa
