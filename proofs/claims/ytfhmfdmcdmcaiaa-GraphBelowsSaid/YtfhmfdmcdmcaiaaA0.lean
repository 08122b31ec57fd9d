/- The heap of packages that may come next: in plain words, and where it lies in memory. -/
import Derived.Test.YtfhmfdmcdmcaiaaProg
import Derived.Below
import Derived.WalkKit
import Derived.WalkSpells
import Derived.WalkSmall
import Derived.WalkLawsBesides
import Derived.OwnWalk
import Derived.Deep.Slices
import Derived.Laws.StructEq
import Derived.Laws.MakeOwn
import Derived.Deep.AppendLies
import Derived.Deep.Cut
import Derived.Deep.DeepCutAuto
import Derived.Deep.RegionHeld3
import Derived.Deep.RegionLaw
import Derived.BigQuiet
import Derived.BigRegion
import Derived.Lib.QuietBelow
import Derived.Tactics
import Derived.LoopTactic
import Derived.Maps.AppendAt
import Derived.Deep.LoopGhost
import Derived.Lib.Hide
namespace Go.Proofs.Ytfhmfdmcdmcaiaa
open Go Go.RowKit
set_option maxHeartbeats 2000000
set_option maxRecDepth 100000

/-! ### Names in order -/
theorem bl_irr : ∀ l : List UInt8, Op.bytesLess l l = false
  | [] => rfl
  | a :: l => by simp [Op.bytesLess, bl_irr l]
theorem bl_cons (a b : UInt8) (x y : List UInt8) : Op.bytesLess (a :: x) (b :: y) = true ↔ a.toNat < b.toNat ∨ (a.toNat = b.toNat ∧ Op.bytesLess x y = true) := by
  rw [Op.bytesLess]
  simp only [Bool.or_eq_true, decide_eq_true_eq, Bool.and_eq_true, beq_iff_eq, UInt8.lt_iff_toNat_lt, UInt8.toNat_inj]
theorem bl_tr : ∀ x y z : List UInt8, Op.bytesLess x y = true → Op.bytesLess y z = true → Op.bytesLess x z = true
  | x, [], z, h, _ => by rw [Op.bytesLess] at h; cases h
  | x, b :: y, [], _, h => by rw [Op.bytesLess] at h; cases h
  | [], b :: y, c :: z, _, _ => rfl
  | a :: x, b :: y, c :: z, h, h' => by
    rw [bl_cons] at h h' ⊢
    rcases h with h | ⟨h, h2⟩
    · rcases h' with h' | ⟨h', _⟩
      · exact .inl (by omega)
      · exact .inl (by omega)
    · rcases h' with h' | ⟨h', h3⟩
      · exact .inl (by omega)
      · exact .inr ⟨by omega, bl_tr x y z h2 h3⟩
theorem bl_tot : ∀ x y : List UInt8, Op.bytesLess x y = false → Op.bytesLess y x = false → x = y
  | [], [], _, _ => rfl
  | [], b :: y, h, _ => by rw [Op.bytesLess] at h; cases h
  | a :: x, [], _, h => by rw [Op.bytesLess] at h; cases h
  | a :: x, b :: y, h, h' => by
    have h1 : ¬ (a.toNat < b.toNat ∨ (a.toNat = b.toNat ∧ Op.bytesLess x y = true)) := by rw [← bl_cons, h]; simp
    have h2 : ¬ (b.toNat < a.toNat ∨ (b.toNat = a.toNat ∧ Op.bytesLess y x = true)) := by rw [← bl_cons, h']; simp
    have e : a.toNat = b.toNat := by omega
    have e2 : a = b := UInt8.toNat_inj.1 e
    subst e2
    have h3 : Op.bytesLess x y = false := by
      cases hc : Op.bytesLess x y with
      | false => rfl
      | true => exact absurd (.inr ⟨rfl, hc⟩) h1
    have h4 : Op.bytesLess y x = false := by
      cases hc : Op.bytesLess y x with
      | false => rfl
      | true => exact absurd (.inr ⟨rfl, hc⟩) h2
    rw [bl_tot x y h3 h4]
/-- package i's name is less than package j's -/
def ltN (nm : List ByteArray) (i j : Nat) : Bool := Op.bytesLess (nm.getD i ByteArray.empty).toList (nm.getD j ByteArray.empty).toList
theorem ltN_irr (nm : List ByteArray) (i : Nat) : ltN nm i i = false := bl_irr _
theorem ltN_tr (nm : List ByteArray) {i j k : Nat} (h : ltN nm i j = true) (h' : ltN nm j k = true) : ltN nm i k = true := bl_tr _ _ _ h h'
/-- not greater, through -/
theorem le_tr (nm : List ByteArray) {i j k : Nat} (h : ltN nm j i = false) (h' : ltN nm k j = false) : ltN nm k i = false := by
  cases hc : ltN nm k i with
  | false => rfl
  | true =>
    -- k < i ≤ ..: i and j, j and k
    cases h1 : ltN nm i j with
    | true => rw [ltN_tr nm hc h1] at h'; cases h'
    | false =>
      have e := bl_tot _ _ h1 h
      unfold ltN at hc h'
      rw [e] at hc
      rw [hc] at h'; cases h'

/-! ### A heap -/
/-- no one is less than the one above it, but perhaps at one place, whose children are not less than what stands above it -/
def UpOk (nm : List ByteArray) (h : List Nat) (j : Nat) : Prop :=
  (∀ i, 0 < i → i < h.length → i ≠ j → ltN nm (h.getD i 0) (h.getD ((i - 1) / 2) 0) = false) ∧
  (0 < j → ∀ i, 0 < i → i < h.length → (i - 1) / 2 = j → ltN nm (h.getD i 0) (h.getD ((j - 1) / 2) 0) = false)
def IsHeap (nm : List ByteArray) (h : List Nat) : Prop := ∀ i, 0 < i → i < h.length → ltN nm (h.getD i 0) (h.getD ((i - 1) / 2) 0) = false
/-- the first n are a heap, but perhaps below one place -/
def DnOk (nm : List ByteArray) (h : List Nat) (n j : Nat) : Prop :=
  (∀ i, 0 < i → i < n → (i - 1) / 2 ≠ j → ltN nm (h.getD i 0) (h.getD ((i - 1) / 2) 0) = false) ∧
  (0 < j → ∀ i, 0 < i → i < n → (i - 1) / 2 = j → ltN nm (h.getD i 0) (h.getD ((j - 1) / 2) 0) = false)
def swapL (h : List Nat) (i j : Nat) : List Nat := (h.set i (h.getD j 0)).set j (h.getD i 0)
theorem swapL_len (h : List Nat) (i j : Nat) : (swapL h i j).length = h.length := by simp [swapL]
theorem swapL_get (h : List Nat) (i j k : Nat) (hi : i < h.length) (hj : j < h.length) : (swapL h i j).getD k 0 = if k = j then h.getD i 0 else if k = i then h.getD j 0 else h.getD k 0 := by
  unfold swapL
  simp only [List.getD_eq_getElem?_getD]
  by_cases h1 : k = j
  · subst h1
    rw [if_pos rfl, List.getElem?_set_self (by simpa using hj)]; rfl
  · rw [if_neg h1, List.getElem?_set_ne (Ne.symm h1)]
    by_cases h2 : k = i
    · subst h2
      rw [if_pos rfl, List.getElem?_set_self hi]; rfl
    · rw [if_neg h2, List.getElem?_set_ne (Ne.symm h2)]
theorem set_perm {α : Type} : ∀ (l : List α) (i : Nat) (x : α) (hi : i < l.length), (l[i] :: l.set i x).Perm (x :: l)
  | [], i, x, hi => by simp at hi
  | a :: l, 0, x, _ => by
    show (a :: x :: l).Perm (x :: a :: l)
    exact List.Perm.swap _ _ _
  | a :: l, i + 1, x, hi => by
    have hi' : i < l.length := by simpa using hi
    show (l[i] :: a :: l.set i x).Perm (x :: a :: l)
    exact (List.Perm.swap _ _ _).trans (((set_perm l i x hi').cons a).trans (List.Perm.swap _ _ _))
theorem swapL_perm (h : List Nat) (i j : Nat) (hi : i < h.length) (hj : j < h.length) : (swapL h i j).Perm h := by
  have e1 : h.getD i 0 = h[i] := by simp [List.getD_eq_getElem?_getD, List.getElem?_eq_getElem hi]
  have e2 : h.getD j 0 = h[j] := by simp [List.getD_eq_getElem?_getD, List.getElem?_eq_getElem hj]
  unfold swapL
  rw [e1, e2]
  have h1 := set_perm (h.set i h[j]) j h[i] (by simpa using hj)
  have h2 := set_perm h i h[j] hi
  have e3 : (h.set i h[j])[j]'(by simpa using hj) = h[j] := by
    rw [List.getElem_set]
    split
    · rfl
    · rfl
  rw [e3] at h1
  have h3 := h1.trans h2
  exact List.Perm.cons_inv h3
theorem up_root {nm : List ByteArray} {h : List Nat} (hu : UpOk nm h 0) : IsHeap nm h := fun i h0 hl => hu.1 i h0 hl (by omega)
theorem up_stop {nm : List ByteArray} {h : List Nat} {j : Nat} (hu : UpOk nm h j) (hl : ltN nm (h.getD j 0) (h.getD ((j - 1) / 2) 0) = false) : IsHeap nm h := by
  intro i h0 hi
  by_cases e : i = j
  · subst e; exact hl
  · exact hu.1 i h0 hi e
theorem up_step {nm : List ByteArray} {h : List Nat} {j : Nat} (hu : UpOk nm h j) (h0 : 0 < j) (hj : j < h.length) (hl : ltN nm (h.getD j 0) (h.getD ((j - 1) / 2) 0) = true) : UpOk nm (swapL h ((j - 1) / 2) j) ((j - 1) / 2) := by
  obtain ⟨p, hp⟩ : ∃ p, (j - 1) / 2 = p := ⟨_, rfl⟩
  rw [hp] at hl ⊢
  have hpj : p < j := by omega
  have hpl : p < h.length := by omega
  have hg := fun k => swapL_get h p j k hpl hj
  have hjp : ltN nm (h.getD p 0) (h.getD j 0) = false := by
    cases hc : ltN nm (h.getD p 0) (h.getD j 0) with
    | false => rfl
    | true => have := ltN_tr nm hc hl; rw [ltN_irr] at this; cases this
  refine ⟨fun i hi hil hip => ?_, fun hp0 i hi hil hip => ?_⟩
  · rw [swapL_len] at hil
    rw [hg, hg]
    by_cases e1 : i = j
    · subst e1
      rw [if_pos rfl, hp, if_neg (by omega), if_pos rfl]
      exact hjp
    · rw [if_neg e1, if_neg hip]
      by_cases e2 : (i - 1) / 2 = j
      · rw [if_pos e2]
        have := hu.2 h0 i hi hil e2
        rw [hp] at this
        exact this
      · rw [if_neg e2]
        by_cases e3 : (i - 1) / 2 = p
        · rw [if_pos e3]
          have := hu.1 i hi hil e1
          rw [e3] at this
          exact le_tr nm hjp this
        · rw [if_neg e3]
          exact hu.1 i hi hil e1
  · rw [swapL_len] at hil
    rw [hg, hg]
    have hpp : (p - 1) / 2 < p := by omega
    have h1 : ltN nm (h.getD p 0) (h.getD ((p - 1) / 2) 0) = false := hu.1 p hp0 hpl (by omega)
    rw [if_neg (show ¬ (p - 1) / 2 = j by omega), if_neg (show ¬ (p - 1) / 2 = p by omega)]
    by_cases e1 : i = j
    · rw [if_pos e1]; exact h1
    · rw [if_neg e1, if_neg (by omega)]
      have h2 := hu.1 i hi hil e1
      rw [hip] at h2
      exact le_tr nm h1 h2
theorem dn_stop {nm : List ByteArray} {h : List Nat} {n j : Nat} (hd : DnOk nm h n j) (hc : ∀ i, 0 < i → i < n → (i - 1) / 2 = j → ltN nm (h.getD i 0) (h.getD j 0) = false) : ∀ i, 0 < i → i < n → ltN nm (h.getD i 0) (h.getD ((i - 1) / 2) 0) = false := by
  intro i h0 hi
  by_cases e : (i - 1) / 2 = j
  · rw [e]; exact hc i h0 hi e
  · exact hd.1 i h0 hi e
theorem dn_step {nm : List ByteArray} {h : List Nat} {n j c : Nat} (hd : DnOk nm h n j) (hnl : n ≤ h.length) (hc : c < n) (hc0 : 0 < c) (hcj : (c - 1) / 2 = j) (hl : ltN nm (h.getD c 0) (h.getD j 0) = true)
    (hmin : ∀ i, 0 < i → i < n → (i - 1) / 2 = j → ltN nm (h.getD i 0) (h.getD c 0) = false) : DnOk nm (swapL h j c) n c := by
  have hjc : j < c := by omega
  have hg := fun k => swapL_get h j c k (by omega) (by omega)
  have hcj' : ltN nm (h.getD j 0) (h.getD c 0) = false := by
    cases hx : ltN nm (h.getD j 0) (h.getD c 0) with
    | false => rfl
    | true => have := ltN_tr nm hx hl; rw [ltN_irr] at this; cases this
  refine ⟨fun i hi hil hip => ?_, fun _ i hi hil hip => ?_⟩
  · rw [hg, hg]
    rw [if_neg hip]
    by_cases e1 : i = c
    · subst e1
      rw [if_pos rfl, if_pos hcj]
      exact hcj'
    · rw [if_neg e1]
      by_cases e2 : i = j
      · subst e2
        rw [if_pos rfl, if_neg (by omega)]
        exact hd.2 hi c hc0 hc hcj
      · rw [if_neg e2]
        by_cases e3 : (i - 1) / 2 = j
        · rw [if_pos e3]; exact hmin i hi hil e3
        · rw [if_neg e3]; exact hd.1 i hi hil e3
  · rw [hg, hg, hcj, if_neg (show ¬ j = c by omega), if_pos rfl, if_neg (show ¬ i = c by omega), if_neg (show ¬ i = j by omega)]
    have h1 := hd.1 i hi hil (by omega)
    rw [hip] at h1
    exact h1
/-- the first of a heap is not greater than any -/
theorem heap_least {nm : List ByteArray} {h : List Nat} (hh : IsHeap nm h) : ∀ n i, i ≤ n → i < h.length → ltN nm (h.getD i 0) (h.getD 0 0) = false
  | 0, i, hi, _ => by
    obtain rfl : i = 0 := by omega
    exact ltN_irr _ _
  | n + 1, i, hi, hl => by
    by_cases h0 : i = 0
    · subst h0; exact ltN_irr _ _
    · have h1 := hh i (by omega) hl
      have h2 := heap_least hh n ((i - 1) / 2) (by omega) (by omega)
      exact le_tr nm h2 h1
end Go.Proofs.Ytfhmfdmcdmcaiaa
