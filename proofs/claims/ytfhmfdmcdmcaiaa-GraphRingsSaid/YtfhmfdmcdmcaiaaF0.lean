/- Rings and chains of packages: in plain words, counted out. -/
import Derived.Test.YtfhmfdmcdmcaiaaE0
namespace Go.Proofs.Ytfhmfdmcdmcaiaa
open Go Go.RowKit Go.Sort
set_option maxHeartbeats 4000000
set_option maxRecDepth 100000

def wd (i : Nat) : ByteArray := ⟨#[112, UInt8.ofNat (97 + i)]⟩
def namesP (k s i : Nat) : List ByteArray := (List.range i).map fun j => wd ((j + s) % k)
def ringP (k s i : Nat) : List (List ByteArray) := (List.range i).map fun j => [wd ((j + s + 1) % k)]
def chainP (k s i : Nat) : List (List ByteArray) := (List.range i).map fun j => if (j + s) % k = k - 1 then [] else [wd ((j + s + 1) % k)]
def checkR (k s : Nat) : Bool := orderR (namesP k s k) (ringP k s k) == ([], 0, 9)
def checkC (k s : Nat) : Bool :=
  let r := orderR (namesP k s k) (chainP k s k)
  r.2.2 == 0 && r.1.length == k && (List.range k).all fun i => decide ((namesP k s k)[r.1.getD i 0]?.getD ByteArray.empty = wd (k - 1 - i)) && decide (r.1.getD i 0 < k)
theorem all_rings : ((List.range 9).all fun k => k == 0 || (List.range k).all fun s => checkR k s && checkC k s) = true := by decide +kernel
theorem rings_plain {k s : Nat} (h1 : 0 < k) (h2 : k ≤ 8) (hs : s < k) : orderR (namesP k s k) (ringP k s k) = ([], 0, 9) ∧ (orderR (namesP k s k) (chainP k s k)).2.2 = 0 ∧ (orderR (namesP k s k) (chainP k s k)).1.length = k ∧
    ∀ i, i < k → (namesP k s k)[(orderR (namesP k s k) (chainP k s k)).1.getD i 0]?.getD ByteArray.empty = wd (k - 1 - i) ∧ (orderR (namesP k s k) (chainP k s k)).1.getD i 0 < k := by
  have h := all_rings
  rw [List.all_eq_true] at h
  have h3 := h k (by simp; omega)
  rw [Bool.or_eq_true, List.all_eq_true] at h3
  have h4 : ¬ (k == 0) = true := by simp; omega
  have h5 := (h3.resolve_left h4) s (by simpa using hs)
  rw [Bool.and_eq_true] at h5
  obtain ⟨h6, h7⟩ := h5
  unfold checkR at h6
  unfold checkC at h7
  simp only [Bool.and_eq_true, List.all_eq_true] at h7
  refine ⟨by simpa using h6, by simpa using h7.1.1, by simpa using h7.1.2, fun i hi => ?_⟩
  have := h7.2 i (by simpa using hi)
  exact ⟨by simpa using this.1, by simpa using this.2⟩
end Go.Proofs.Ytfhmfdmcdmcaiaa
