/- What isa's table says, in plain words. -/
import Derived.ProofKit
import Derived.Lib.Hide
namespace IsaP
open Go
def names : List (List UInt8) := [[104, 97, 108, 116], [116, 114, 97, 112], [109, 111, 118, 101], [99, 111, 110, 115, 116], [104, 105, 103, 104], [108, 111, 97, 100], [115, 116, 111, 114, 101], [106, 117, 109, 112], [122, 101, 114, 111], [115, 111, 109, 101], [99, 97, 108, 108], [97, 116], [114, 101, 116], [105, 110], [111, 117, 116], [114, 111, 111, 109], [], [97, 100, 100], [115, 117, 98], [109, 117, 108], [100, 105, 118], [114, 101, 109], [97, 110, 100], [111, 114], [120, 111, 114], [115, 104, 108], [115, 104, 114], [101, 113], [110, 101], [108, 116], [108, 101], [103, 116], [103, 101], [], [], [], [], [], [], [], [], [110, 101, 103], [102, 108, 105, 112], [98, 97, 110, 103]]
def regsL : List Int := [0, 0, 3, 1, 1, 3, 3, 0, 1, 1, 0, 1, 0, 1, 1, 1, 0, 7, 7, 7, 7, 7, 7, 7, 7, 7, 7, 7, 7, 7, 7, 7, 7, 0, 0, 0, 0, 0, 0, 0, 0, 3, 3, 3]
def immL : List Bool := [false, true, false, true, true, true, true, true, true, true, true, false, false, false, false, false, false, false, false, false, false, false, false, false, false, false, false, false, false, false, false, false, false, false, false, false, false, false, false, false, false, false, false, false]
def nm (op : Int) : List UInt8 := if op < 0 then [] else names.getD op.toNat []
def rg (op : Int) : Int := if op < 0 then 0 else regsL.getD op.toNat 0
def im (op : Int) : Bool := if op < 0 then false else immL.getD op.toNat false
def ok (op : Int) : Bool := (decide (0 ≤ op) && decide (op < 16)) || (decide (17 ≤ op) && decide (op ≤ 32)) || (decide (41 ≤ op) && decide (op ≤ 43))
theorem ok_cases (op : Int) (h : ok op = true) : op = 0 ∨ op = 1 ∨ op = 2 ∨ op = 3 ∨ op = 4 ∨ op = 5 ∨ op = 6 ∨ op = 7 ∨ op = 8 ∨ op = 9 ∨ op = 10 ∨ op = 11 ∨ op = 12 ∨ op = 13 ∨ op = 14 ∨ op = 15 ∨ op = 17 ∨ op = 18 ∨ op = 19 ∨ op = 20 ∨ op = 21 ∨ op = 22 ∨ op = 23 ∨ op = 24 ∨ op = 25 ∨ op = 26 ∨ op = 27 ∨ op = 28 ∨ op = 29 ∨ op = 30 ∨ op = 31 ∨ op = 32 ∨ op = 41 ∨ op = 42 ∨ op = 43 := by
  simp [ok] at h
  omega
theorem not_ok (op : Int) (h : ok op = false) : nm op = [] ∧ rg op = 0 ∧ im op = false := by
  simp [ok] at h
  by_cases h0 : op < 0
  · simp [nm, rg, im, h0]
  by_cases h1 : 44 ≤ op
  · have e : 44 ≤ op.toNat := by omega
    refine ⟨?_, ?_, ?_⟩
    · rw [nm, if_neg h0, List.getD, List.getElem?_eq_none (show names.length ≤ op.toNat from e)]; rfl
    · rw [rg, if_neg h0, List.getD, List.getElem?_eq_none (show regsL.length ≤ op.toNat from e)]; rfl
    · rw [im, if_neg h0, List.getD, List.getElem?_eq_none (show immL.length ≤ op.toNat from e)]; rfl
  have : op = 16 ∨ op = 33 ∨ op = 34 ∨ op = 35 ∨ op = 36 ∨ op = 37 ∨ op = 38 ∨ op = 39 ∨ op = 40 := by omega
  obtain rfl | rfl | rfl | rfl | rfl | rfl | rfl | rfl | rfl := this <;> exact ⟨rfl, rfl, rfl⟩
end IsaP
