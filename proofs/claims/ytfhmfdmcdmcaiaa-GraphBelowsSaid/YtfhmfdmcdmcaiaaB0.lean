/- In which order packages come: in plain words. -/
import Derived.Test.YtfhmfdmcdmcaiaaA7
namespace Go.Proofs.Ytfhmfdmcdmcaiaa
open Go
set_option maxHeartbeats 1000000

/-- how many that k wants are not there yet -/
def lacksP (E : Nat → List Int) (out : List Nat) (k : Nat) : Nat := ((E k).filter fun x => !out.contains x.toNat).length
def readyP (E : Nat → List Int) (out : List Nat) (k : Nat) : Bool := (E k).all fun x => out.contains x.toNat
/-- may come next -/
def nextP (E : Nat → List Int) (out : List Nat) (k : Nat) : Bool := !out.contains k && readyP E out k
def betterP (nm : List ByteArray) (b : Option Nat) (k : Nat) : Bool := match b with
  | none => true
  | some c => ltN nm k c
def bestP (nm : List ByteArray) (E : Nat → List Int) (out : List Nat) : Nat → Option Nat
  | 0 => none
  | k + 1 => if (nextP E out k && betterP nm (bestP nm E out k) k) = true then some k else bestP nm E out k
def goO (nm : List ByteArray) (E : Nat → List Int) : Nat → List Nat → List Nat
  | 0, out => out
  | f + 1, out => match bestP nm E out nm.length with
    | none => out
    | some b => goO nm E f (out ++ [b])
def orderP (nm : List ByteArray) (E : Nat → List Int) : List Nat := goO nm E nm.length []
def dupAt (nm : List ByteArray) : Option Nat := (List.range nm.length).find? fun i => Lib.containsS (nm.take i) (nm.getD i ByteArray.empty)
def cycAt (n : Nat) (out : List Nat) : Option Nat := (List.range n).find? fun i => !out.contains i
/-- what Order answers -/
def orderR (nm : List ByteArray) (needs : List (List ByteArray)) : List Nat × Nat × Int :=
  if 8 < nm.length then ([], 0, 12)
  else match dupAt nm with
    | some i => ([], i, 7)
    | none => match badE nm needs with
      | some i => ([], i, 6)
      | none => match cycAt nm.length (orderP nm (edgeRow nm needs)) with
        | some i => ([], i, 9)
        | none => (orderP nm (edgeRow nm needs), 0, 0)

theorem ready_lacks (E : Nat → List Int) (out : List Nat) (k : Nat) : readyP E out k = true ↔ lacksP E out k = 0 := by
  unfold readyP lacksP
  rw [List.all_eq_true, List.length_eq_zero_iff, List.filter_eq_nil_iff]
  constructor
  · intro h x hx; rw [h x hx]; simp
  · intro h x hx
    have := h x hx
    simpa using this
theorem best_none {nm : List ByteArray} {E : Nat → List Int} {out : List Nat} : ∀ n, bestP nm E out n = none → ∀ k, k < n → nextP E out k = false
  | 0, _, k, hk => by omega
  | n + 1, h, k, hk => by
    rw [bestP] at h
    by_cases hc : (nextP E out n && betterP nm (bestP nm E out n) n) = true
    · rw [if_pos hc] at h; cases h
    · rw [if_neg hc] at h
      by_cases e : k = n
      · subst e
        rw [h] at hc
        simpa [betterP] using hc
      · exact best_none n h k (by omega)
theorem best_some {nm : List ByteArray} {E : Nat → List Int} {out : List Nat} : ∀ n b, bestP nm E out n = some b → b < n ∧ nextP E out b = true ∧ ∀ k, k < n → nextP E out k = true → ltN nm k b = false
  | 0, b, h => by cases h
  | n + 1, b, h => by
    rw [bestP] at h
    by_cases hc : (nextP E out n && betterP nm (bestP nm E out n) n) = true
    · rw [if_pos hc] at h
      obtain rfl := Option.some.inj h
      rw [Bool.and_eq_true] at hc
      refine ⟨by omega, hc.1, fun k hk hkn => ?_⟩
      by_cases e : k = n
      · subst e; exact ltN_irr _ _
      · cases hb : bestP nm E out n with
        | none => rw [best_none n hb k (by omega)] at hkn; cases hkn
        | some c =>
          obtain ⟨h1, h2, h3⟩ := best_some n c hb
          have h4 := hc.2
          rw [hb] at h4
          have h4 : ltN nm n c = true := h4
          cases hx : ltN nm k n with
          | false => rfl
          | true => have := ltN_tr nm hx h4; rw [h3 k (by omega) hkn] at this; cases this
    · rw [if_neg hc] at h
      obtain ⟨h1, h2, h3⟩ := best_some n b h
      refine ⟨by omega, h2, fun k hk hkn => ?_⟩
      by_cases e : k = n
      · subst e
        rw [hkn, h] at hc
        simpa [betterP] using hc
      · exact h3 k (by omega) hkn
/-- no name stands there twice -/
def Apart (nm : List ByteArray) : Prop := ∀ i j, i < nm.length → j < nm.length → nm.getD i ByteArray.empty = nm.getD j ByteArray.empty → i = j
theorem apart_of {nm : List ByteArray} (h : dupAt nm = none) : Apart nm := by
  have key : ∀ i j, i < j → j < nm.length → nm.getD i ByteArray.empty ≠ nm.getD j ByteArray.empty := by
    intro i j hij hj e
    unfold dupAt at h
    rw [List.find?_range_eq_none] at h
    have := h j hj
    rw [← e] at this
    have hm : nm.getD i ByteArray.empty ∈ nm.take j := by
      rw [List.getD_eq_getElem?_getD, List.getElem?_eq_getElem (by omega)]
      rw [List.mem_take_iff_getElem]
      exact ⟨i, by omega, rfl⟩
    rw [(Lib.containsS_iff _ _).2 hm] at this
    cases this
  intro i j hi hj e
  rcases Nat.lt_trichotomy i j with h1 | h1 | h1
  · exact absurd e (key i j h1 hj)
  · exact h1
  · exact absurd e.symm (key j i h1 hi)
theorem best_is {nm : List ByteArray} {E : Nat → List Int} {out : List Nat} (ha : Apart nm) {x : Nat} (hx : x < nm.length) (hn : nextP E out x = true) (hm : ∀ k, k < nm.length → nextP E out k = true → ltN nm k x = false) : bestP nm E out nm.length = some x := by
  cases hb : bestP nm E out nm.length with
  | none => rw [best_none _ hb x hx] at hn; cases hn
  | some b =>
    obtain ⟨h1, h2, h3⟩ := best_some _ b hb
    have h4 := h3 x hx hn
    have h5 := hm b h1 h2
    have := bl_tot _ _ h4 h5
    have e : nm.getD x ByteArray.empty = nm.getD b ByteArray.empty := by
      exact (Lib.bytes_beq_iff _ _).1 (by rw [this]; simp)
    rw [ha x b hx h1 e]
end Go.Proofs.Ytfhmfdmcdmcaiaa
