/- Of copies, in plain words: what a ring's copies make of cells. -/
import Derived.Test.YtihnmhemhcmmoaaC2
import Derived.Test.YtihnmhemhcmmoaaB1
namespace Go.Proofs.Ytihnmhemhcmmoaa
open Go
set_option maxHeartbeats 1000000

theorem xR_lt {k : Nat} (hk : 2 ≤ k) (s j : Nat) : xR k s j < k := Nat.mod_lt _ (by omega)
theorem xR_if {k : Nat} (hk : 2 ≤ k) (s : Nat) {j : Nat} (hj : j ≤ k) : xR k s j = if s % k + j < k then s % k + j else s % k + j - k := modadd (Nat.mod_lt _ (by omega)) hj
theorem xR_inj {k : Nat} (hk : 2 ≤ k) (s : Nat) {i j : Nat} (hi : i < k) (hj : j < k) (e : xR k s i = xR k s j) : i = j := by
  have hr : s % k < k := Nat.mod_lt _ (by omega)
  rw [xR_if hk s (by omega), xR_if hk s (by omega)] at e
  split at e <;> split at e <;> omega
theorem xR_all {k : Nat} (hk : 2 ≤ k) (s : Nat) {y : Nat} (hy : y < k) : ∃ j, j < k ∧ xR k s j = y := by
  have hr : s % k < k := Nat.mod_lt _ (by omega)
  refine ⟨if s % k ≤ y then y - s % k else y + k - s % k, by split <;> omega, ?_⟩
  rw [xR_if hk s (by split <;> omega)]
  split <;> split <;> omega
theorem xR_succ (k s j : Nat) : (xR k s j + 1) % k = xR k s (j + 1) := by
  unfold xR
  rw [Nat.mod_add_mod, Nat.add_assoc]
theorem xR_full {k : Nat} (hk : 2 ≤ k) (s : Nat) : xR k s k = xR k s 0 := by
  have hr : s % k < k := Nat.mod_lt _ (by omega)
  rw [xR_if hk s (Nat.le_refl _), xR_if hk s (by omega)]; split <;> split <;> omega
theorem doP_append : ∀ (a b : List Mv) (l : List Int), doP (a ++ b) l = doP b (doP a l)
  | [], _, _ => rfl
  | m :: a, b, l => by rw [List.cons_append, doP, doP, doP_append]
theorem getD_set_self {l : List Int} {i : Nat} (hi : i < l.length) (x : Int) : (l.set i x).getD i 0 = x := by
  simp [List.getD_eq_getElem?_getD, hi]
theorem getD_set_ne {l : List Int} {i j : Nat} (h : i ≠ j) (x : Int) : (l.set i x).getD j 0 = l.getD j 0 := by
  simp [List.getD_eq_getElem?_getD, h]
def stepR (k s j : Nat) : Mv := ⟨xR k s j, if j + 1 = k then (k : Int) else xR k s (j + 1)⟩
def cellsR (k : Nat) : List Int := (List.range k).map (fun (i : Nat) => (100 : Int) + i) ++ [0]
theorem cellsR_at {k i : Nat} (hi : i < k) : (cellsR k).getD i 0 = 100 + i := by
  unfold cellsR
  rw [List.getD_eq_getElem?_getD, List.getElem?_append_left (by simpa using hi)]
  simp [hi]
theorem do_one (l : List Int) (t f : Nat) (ht : t < l.length) (hf : f < l.length) : doP [⟨t, f⟩] l = l.set t (l.getD f 0) := by
  rw [doP, doP, if_pos (show (0 ≤ (t : Int) ∧ (t : Int) < l.length) ∧ (0 ≤ (f : Int) ∧ (f : Int) < l.length) by omega)]
  rfl
theorem ring_do {k : Nat} (hk : 2 ≤ k) (s : Nat) : ∀ j, j ≤ k → ∃ L, doP (⟨k, xR k s 0⟩ :: (List.range j).map (stepR k s)) (cellsR k) = L ∧ L.length = k + 1 ∧ L.getD k 0 = 100 + (xR k s 0 : Nat) ∧ (∀ i, i < j → L.getD (xR k s i) 0 = 100 + (xR k s (i + 1) : Nat)) ∧ ∀ i, j ≤ i → i < k → L.getD (xR k s i) 0 = 100 + (xR k s i : Nat)
  | 0, _ => by
    have hl : (cellsR k).length = k + 1 := by simp [cellsR]
    have h0 := xR_lt hk s 0
    refine ⟨_, rfl, by rw [doP_len]; exact hl, ?_, fun i hi => by omega, fun i _ hi => ?_⟩
    · show (doP [_] _).getD k 0 = _
      rw [do_one _ k (xR k s 0) (by omega) (by omega), getD_set_self (by omega), cellsR_at h0]
    · have hx := xR_lt hk s i
      show (doP [_] _).getD _ 0 = _
      rw [do_one _ k (xR k s 0) (by omega) (by omega), getD_set_ne (by omega), cellsR_at hx]
  | j + 1, hj => by
    obtain ⟨L, h1, h2, h3, h4, h5⟩ := ring_do hk s j (by omega)
    have e : (⟨k, xR k s 0⟩ : Mv) :: (List.range (j + 1)).map (stepR k s) = (⟨k, xR k s 0⟩ :: (List.range j).map (stepR k s)) ++ [stepR k s j] := by
      rw [List.range_succ, List.map_append]; rfl
    rw [e, doP_append, h1]
    have hxj := xR_lt hk s j
    obtain ⟨f, hf, hfl, hfv⟩ : ∃ f : Nat, stepR k s j = ⟨xR k s j, f⟩ ∧ f < k + 1 ∧ L.getD f 0 = 100 + (xR k s (j + 1) : Nat) := by
      by_cases hjk : j + 1 = k
      · exact ⟨k, by unfold stepR; rw [if_pos hjk], by omega, by rw [h3, hjk, xR_full hk]⟩
      · exact ⟨xR k s (j + 1), by unfold stepR; rw [if_neg hjk], by have := xR_lt hk s (j + 1); omega, h5 _ (by omega) (by omega)⟩
    rw [hf, do_one L _ f (by omega) (by omega), hfv]
    refine ⟨_, rfl, by simpa using h2, ?_, fun i hi => ?_, fun i hi hik => ?_⟩
    · rw [getD_set_ne (by omega)]; exact h3
    · by_cases hij : i = j
      · subst hij
        rw [getD_set_self (by omega)]
      · rw [getD_set_ne (fun e => hij (xR_inj hk s (by omega) (by omega) e.symm))]
        exact h4 i (by omega)
    · rw [getD_set_ne (fun e => by have := xR_inj hk s (by omega) hik e; omega)]
      exact h5 i (by omega) hik
theorem ring_cells {k : Nat} (hk : 2 ≤ k) (s : Nat) : (doP (outR k s) (cellsR k)).length = k + 1 ∧ ∀ i, i < k → (doP (outR k s) (cellsR k)).getD i 0 = 100 + ((i + 1) % k : Nat) := by
  obtain ⟨L, h1, h2, h3, h4, _⟩ := ring_do hk s k (Nat.le_refl _)
  have e : outR k s = ⟨k, xR k s 0⟩ :: (List.range k).map (stepR k s) := rfl
  rw [e, h1]
  refine ⟨h2, fun i hi => ?_⟩
  obtain ⟨j, hj, rfl⟩ := xR_all hk s hi
  rw [h4 j hj, xR_succ]
theorem outR_len (k s : Nat) : (outR k s).length = k + 1 := by simp [outR]
theorem ring_bad {k : Nat} (hk : 2 ≤ k) (hk2 : k < 62) (h7 : k % 7 ≠ 0) (s : Nat) : badP k ((List.range k).map (gR k s)) (fun _ => none) = false := by
  obtain ⟨_, hinj⟩ := seven k hk hk2 h7
  refine badP_false _ (by omega) _ _ (fun m hm => ?_) ?_ (fun _ _ => rfl)
  · rw [List.mem_map] at hm
    obtain ⟨i, _, rfl⟩ := hm
    have h1 : (7 * i + s) % k < k := Nat.mod_lt _ (by omega)
    have h2 : (7 * i + s + 1) % k < k := Nat.mod_lt _ (by omega)
    refine ⟨Int.natCast_nonneg _, Int.natCast_nonneg _, fun e => ?_, fun e => ?_⟩
    · have e2 : (7 * i + s) % k = k := Int.natCast_inj.1 e
      omega
    · have e2 : (7 * i + s + 1) % k = k := Int.natCast_inj.1 e
      omega
  · rw [List.map_map]
    refine List.pairwise_map.2 ?_
    refine List.Pairwise.imp_of_mem ?_ List.nodup_range
    intro a b ha hb hab e
    have e2 : (7 * a + s) % k = (7 * b + s) % k := Int.natCast_inj.1 e
    refine hab (hinj a b (by simpa using ha) (by simpa using hb) ?_)
    have hr : s % k < k := Nat.mod_lt _ (by omega)
    have h1 : (7 * a) % k < k := Nat.mod_lt _ (by omega)
    have h2 : (7 * b) % k < k := Nat.mod_lt _ (by omega)
    rw [Nat.add_mod, Nat.add_mod (7 * b), modadd h1 (by omega), modadd h2 (by omega)] at e2
    split at e2 <;> split at e2 <;> omega
end Go.Proofs.Ytihnmhemhcmmoaa
