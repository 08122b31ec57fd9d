/- The order does not ask how often, or in which order, imports are named. And rows of names of one's own. -/
import Derived.Test.YtfhmfdmcdmcaiaaC4
namespace Go.Proofs.Ytfhmfdmcdmcaiaa
open Go Go.RowKit Go.Sort
set_option maxHeartbeats 2000000
set_option maxRecDepth 100000

/-! ### Plain -/
def dbl (l : List ByteArray) : List ByteArray := l.flatMap fun x => [x, x]
def turnL (l : List ByteArray) : List ByteArray := dbl l.reverse
theorem dbl_mem (l : List ByteArray) (x : ByteArray) : x ∈ dbl l ↔ x ∈ l := by
  unfold dbl
  rw [List.mem_flatMap]
  constructor
  · rintro ⟨y, hy, h⟩
    simp at h
    rw [h]; exact hy
  · intro h; exact ⟨x, h, by simp⟩
theorem turn_mem (l : List ByteArray) (x : ByteArray) : x ∈ turnL l ↔ x ∈ l := by
  unfold turnL; rw [dbl_mem, List.mem_reverse]
theorem dbl_len (l : List ByteArray) : (dbl l).length = 2 * l.length := by
  induction l with
  | nil => rfl
  | cons x l ih => simp only [dbl, List.flatMap_cons, List.length_append, List.length_cons, List.length_nil] at ih ⊢; omega
theorem turn_len (l : List ByteArray) : (turnL l).length = 2 * l.length := by unfold turnL; rw [dbl_len, List.length_reverse]
theorem dbl_snoc (l : List ByteArray) (x : ByteArray) : dbl (l ++ [x]) = dbl l ++ [x] ++ [x] := by
  unfold dbl; rw [List.flatMap_append]; simp
theorem need_turn (needs : List (List ByteArray)) (i : Nat) : needOf (needs.map turnL) i = turnL (needOf needs i) := by
  unfold needOf
  simp only [List.getD_eq_getElem?_getD, List.getElem?_map]
  cases needs[i]? <;> rfl
theorem next_same {E E' : Nat → List Int} (h : ∀ k x, x ∈ E k ↔ x ∈ E' k) (out : List Nat) (k : Nat) : nextP E out k = nextP E' out k := by
  unfold nextP readyP
  congr 1
  rw [Bool.eq_iff_iff, List.all_eq_true, List.all_eq_true]
  exact ⟨fun g x hx => g x ((h k x).2 hx), fun g x hx => g x ((h k x).1 hx)⟩
theorem best_same {nm : List ByteArray} {E E' : Nat → List Int} (h : ∀ k x, x ∈ E k ↔ x ∈ E' k) (out : List Nat) : ∀ n, bestP nm E out n = bestP nm E' out n
  | 0 => rfl
  | n + 1 => by rw [bestP, bestP, best_same h out n, next_same h out n]
theorem go_same {nm : List ByteArray} {E E' : Nat → List Int} (h : ∀ k x, x ∈ E k ↔ x ∈ E' k) : ∀ f out, goO nm E f out = goO nm E' f out
  | 0, out => rfl
  | f + 1, out => by
    rw [goO, goO, best_same h out]
    cases bestP nm E' out nm.length with
    | none => rfl
    | some b => exact go_same h f _
theorem orderR_same {nm : List ByteArray} {a b : List (List ByteArray)} (h : ∀ k x, x ∈ needOf a k ↔ x ∈ needOf b k) : orderR nm a = orderR nm b := by
  have hE : ∀ k x, x ∈ edgeRow nm a k ↔ x ∈ edgeRow nm b k := fun k x => by
    unfold edgeRow ids
    rw [once_mem, once_mem, List.mem_map, List.mem_map]
    exact ⟨fun ⟨s, h1, h2⟩ => ⟨s, (h k s).1 h1, h2⟩, fun ⟨s, h1, h2⟩ => ⟨s, (h k s).2 h1, h2⟩⟩
  have hO : orderP nm (edgeRow nm a) = orderP nm (edgeRow nm b) := go_same hE _ _
  have hB : badE nm a = badE nm b := by
    unfold badE
    congr 1
    funext k
    unfold badRow
    rw [Bool.eq_iff_iff, List.any_eq_true, List.any_eq_true]
    exact ⟨fun ⟨s, h1, h2⟩ => ⟨s, (h k s).1 h1, h2⟩, fun ⟨s, h1, h2⟩ => ⟨s, (h k s).2 h1, h2⟩⟩
  unfold orderR
  rw [hO, hB]
theorem orderR_turn (nm : List ByteArray) (needs : List (List ByteArray)) : orderR nm (needs.map turnL) = orderR nm needs :=
  orderR_same (fun k x => by rw [need_turn, turn_mem])

/-! ### In memory -/
/-- names in a block of their own kind -/
def StrR (w : World) (v : Value) (l : List ByteArray) : Prop := ∃ a c, v = .slice a l.length c ∧ l.length ≤ c ∧ c ≤ maxLen ∧ (l = [] ∨ ∃ b cur, a = some ⟨b, 0, none⟩ ∧ w.heap[b]? = some (.cells cur 9) ∧ ∀ (i : Nat) (x : ByteArray), l[i]? = some x → cur[i]? = some (.string x))
theorem StrR.own {w : World} {base n : Nat} {v : Value} {l : List ByteArray} (h : w.ownsRow base 9 1 v n (l.map Value.string)) : StrR w v l := by
  have hl : l.length = n := by have := h.1; simpa using this
  rcases h.2 with ⟨rfl, h0⟩ | ⟨g, cap, cur, rfl, hB, hg, hnc, hcm, hsz, htk⟩
  · exact ⟨none, 0, by rw [hl, h0], by omega, by unfold maxLen; omega, .inl (List.length_eq_zero_iff.1 (by omega))⟩
  · refine ⟨_, cap, by rw [hl], by omega, hcm, .inr ⟨g, cur, rfl, hg, fun i x hx => ?_⟩⟩
    have hi : i < l.length := (List.getElem?_eq_some_iff.1 hx).1
    have h1 : (cur.toList.take (n * 1))[i]? = (l.map Value.string)[i]? := by rw [htk]
    rw [List.getElem?_take_of_lt (by omega), Array.getElem?_toList, List.getElem?_map, hx] at h1
    exact h1
theorem StrR.kept {w w' : World} {v : Value} {l : List ByteArray} (h : StrR w v l) (hb : ∀ b cur, b < w.heap.size → w.heap[b]? = some (.cells cur 9) → w'.heap[b]? = w.heap[b]?) : StrR w' v l := by
  obtain ⟨a, c, h1, h2, h3, h4⟩ := h
  refine ⟨a, c, h1, h2, h3, ?_⟩
  rcases h4 with h4 | ⟨b, cur, h6, h7, h8⟩
  · exact .inl h4
  · exact .inr ⟨b, cur, h6, (hb b cur (lt_of h7) h7).trans h7, h8⟩
theorem StrR.str {w : World} {v : Value} {l : List ByteArray} (h : StrR w v l) : StrRow w v l := by
  obtain ⟨a, c, h1, h2, h3, h4⟩ := h
  refine ⟨a, c, h1, h2, h3, ?_⟩
  rcases h4 with h4 | ⟨b, cur, h6, h7, h8⟩
  · exact .inl h4
  · exact .inr ⟨b, 0, h6, fun i x hx => by rw [Nat.zero_add]; exact cell_of h7 (h8 i x hx)⟩
/-- rows of names, in a row of one's own -/
def NStrR (w : World) (base : Nat) (v : Value) (l : List (List ByteArray)) : Prop := ∃ us : List Value, us.length = l.length ∧ w.ownsRow base 22 1 v l.length us ∧ ∀ (i : Nat) (u : Value) (x : List ByteArray), us[i]? = some u → l[i]? = some x → StrR w u x
theorem NStrR.str {w : World} {base : Nat} {v : Value} {l : List (List ByteArray)} (h : NStrR w base v l) : NStr w v l := by
  obtain ⟨us, h0, h1, h2⟩ := h
  rcases h1.2 with ⟨rfl, h3⟩ | ⟨g, cap, cur, rfl, hB, hg, hnc, hcm, hsz, htk⟩
  · exact ⟨none, 0, by rw [h3], by omega, by unfold maxLen; omega, .inl (List.length_eq_zero_iff.1 h3)⟩
  · refine ⟨_, cap, rfl, hnc, hcm, .inr ⟨g, 0, rfl, fun i x hx => ?_⟩⟩
    have hi : i < l.length := (List.getElem?_eq_some_iff.1 hx).1
    obtain ⟨u, hu⟩ : ∃ u, us[i]? = some u := ⟨_, List.getElem?_eq_getElem (by omega)⟩
    refine ⟨u, ?_, (h2 i u x hu hx).str⟩
    rw [Nat.zero_add]
    refine cell_of hg ?_
    have h1' : (cur.toList.take (l.length * 1))[i]? = us[i]? := by rw [htk]
    rw [List.getElem?_take_of_lt (by omega), Array.getElem?_toList, hu] at h1'
    exact h1'
theorem NStrR.any {w w' : World} {base : Nat} {v : Value} {l : List (List ByteArray)} (h : NStrR w base v l) (hb : Below w.heap.size w w') : NStrR w' base v l := by
  obtain ⟨us, h0, h1, h2⟩ := h
  exact ⟨us, h0, own_below h1 hb, fun i u x hu hx => (h2 i u x hu hx).kept (fun b _ hl _ => hb.block b hl)⟩
/-- one row more -/
theorem NStrR.app {w wX w2 : World} {base : Nat} {v u : Value} {us : List Value} {l : List (List ByteArray)} {x : List ByteArray} {gg cap : Nat} (h0 : us.length = l.length) (h1 : w.ownsRow base 22 1 v l.length us) (h2 : ∀ (i : Nat) (u : Value) (x : List ByteArray), us[i]? = some u → l[i]? = some x → StrR w u x) (hu : StrR w u x) (hX : Below w.heap.size w wX)
    (hown : w2.ownsRow base 22 1 (.slice (some ⟨gg, 0, none⟩) (l.length + 1) cap) (l.length + 1) (us ++ [u])) (hg : wX.grownBy w2 v.ownBlock) : NStrR w2 base (.slice (some ⟨gg, 0, none⟩) (l.length + 1) cap) (l ++ [x]) := by
  have hk : ∀ b cur, b < w.heap.size → w.heap[b]? = some (.cells cur 9) → w2.heap[b]? = w.heap[b]? := fun b cur hb hc => by
    refine (hg.block b (Nat.lt_of_lt_of_le hb hX.size) (fun e => ?_)).trans (hX.block b hb)
    rcases h1.2 with ⟨e1, _⟩ | ⟨g', c', cur', e1, hB, hgg, _⟩
    · rw [e1] at e; cases e
    · rw [e1] at e
      have : g' = b := by simpa [Value.ownBlock] using e.symm
      subst this
      rw [hc] at hgg
      simp at hgg
  refine ⟨us ++ [u], by simp [h0], by rw [List.length_append, List.length_singleton]; exact hown, fun i u' x' hu' hx' => ?_⟩
  by_cases hi : i < l.length
  · rw [List.getElem?_append_left (by omega)] at hu' hx'
    exact (h2 i u' x' hu' hx').kept hk
  · have hi2 : i = l.length := by
      have := (List.getElem?_eq_some_iff.1 hx').1
      simp at this
      omega
    subst hi2
    rw [List.getElem?_append_right (by omega), h0, Nat.sub_self] at hu'
    rw [List.getElem?_append_right (by omega), Nat.sub_self] at hx'
    simp at hu' hx'
    subst hu' hx'
    exact hu.kept hk
theorem info9 : (Try.prog.info? 9).map (fun i => (i.zero, i.size, i.bytes)) = some (some (.string ByteArray.empty), 1, 16) := by kernel_rfl
theorem info22 : (Try.prog.info? 22).map (fun i => (i.zero, i.size, i.bytes)) = some (some (.slice none 0 0), 1, 24) := by kernel_rfl
end Go.Proofs.Ytfhmfdmcdmcaiaa
