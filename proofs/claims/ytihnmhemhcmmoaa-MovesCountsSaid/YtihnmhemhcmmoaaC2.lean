/- Of copies, in plain words: a ring of any length is turned round by one copy more. -/
import Derived.Test.YtihnmhemhcmmoaaC1
namespace Go.Proofs.Ytihnmhemhcmmoaa
open Go
set_option maxHeartbeats 1000000

def sevenOk : Bool := (List.range 62).all fun k => k < 2 || k % 7 == 0 || ((List.range k).all fun y => (List.range k).any fun i => (7 * i) % k == y) && ((List.range k).all fun i => (List.range k).all fun j => (7 * i) % k != (7 * j) % k || i == j)
theorem seven_ok : sevenOk = true := by kernel_rfl
theorem seven (k : Nat) (hk : 2 ≤ k) (hk2 : k < 62) (h7 : k % 7 ≠ 0) : (∀ y, y < k → ∃ i, i < k ∧ (7 * i) % k = y) ∧ ∀ i j, i < k → j < k → (7 * i) % k = (7 * j) % k → i = j := by
  have h := seven_ok
  unfold sevenOk at h
  rw [List.all_eq_true] at h
  have h := h k (by simpa using hk2)
  have e1 : decide (k < 2) = false := by simp; omega
  have e2 : (k % 7 == 0) = false := by simpa using h7
  rw [e1, e2, Bool.false_or, Bool.false_or, Bool.and_eq_true, List.all_eq_true, List.all_eq_true] at h
  obtain ⟨ha, hb⟩ := h
  refine ⟨fun y hy => ?_, fun i j hi hj e => ?_⟩
  · have := ha y (by simpa using hy)
    rw [List.any_eq_true] at this
    obtain ⟨i, hi, he⟩ := this
    exact ⟨i, by simpa using hi, by simpa using he⟩
  · have := hb i (by simpa using hi)
    rw [List.all_eq_true] at this
    have := this j (by simpa using hj)
    rw [e] at this
    simpa using this
theorem modadd {r j k : Nat} (hr : r < k) (hj : j ≤ k) : (r + j) % k = if r + j < k then r + j else r + j - k := by
  split
  · next h => exact Nat.mod_eq_of_lt h
  · next h => rw [Nat.mod_eq_sub_mod (by omega)]; exact Nat.mod_eq_of_lt (by omega)
theorem filter_one (p : Nat → Bool) (i0 : Nat) : ∀ n, (∀ i, i < n → (p i = true ↔ i = i0)) → (List.range n).filter p = if i0 < n then [i0] else []
  | 0, _ => by simp
  | n + 1, h => by
    rw [List.range_succ, List.filter_append, filter_one p i0 n (fun i hi => h i (by omega))]
    by_cases hn : n = i0
    · have := (h n (by omega)).2 hn
      subst hn
      simp [this]
    · have : p n = false := by
        cases hp : p n with
        | false => rfl
        | true => exact absurd ((h n (by omega)).1 hp) hn
      rw [List.filter_cons, this]
      by_cases h2 : i0 < n
      · simp [h2]; omega
      · simp [h2]; omega
/-- the copies of a ring -/
def gR (k s : Nat) (i : Nat) : Mv := ⟨(((7 * i + s) % k : Nat) : Int), (((7 * i + s + 1) % k : Nat) : Int)⟩
def xR (k s : Nat) (j : Nat) : Nat := (s % k + j) % k
def outR (k s : Nat) : List Mv := ⟨k, xR k s 0⟩ :: (List.range k).map (fun j => ⟨xR k s j, if j + 1 = k then (k : Int) else xR k s (j + 1)⟩)
theorem ring_run (k s : Nat) (hk : 2 ≤ k) (hk2 : k < 62) (h7 : k % 7 ≠ 0) (extra : Nat) : sortedP ((List.range k).map (gR k s)) k (k + 1 + extra) = some (outR k s) := by
  obtain ⟨hsur, hinj⟩ := seven k hk hk2 h7
  have hr : s % k < k := Nat.mod_lt _ (by omega)
  -- cells
  have ht : ∀ i, (7 * i + s) % k = if (7 * i) % k + s % k < k then (7 * i) % k + s % k else (7 * i) % k + s % k - k := by
    intro i
    rw [Nat.add_mod]
    exact modadd (Nat.mod_lt _ (by omega)) (Nat.le_of_lt hr)
  have htl : ∀ i, (7 * i + s) % k < k := fun i => Nat.mod_lt _ (by omega)
  have hf : ∀ i, (7 * i + s + 1) % k = if (7 * i + s) % k + 1 < k then (7 * i + s) % k + 1 else 0 := by
    intro i
    have := modadd (k := k) (r := (7 * i + s) % k) (j := 1) (htl i) (by omega)
    rw [Nat.mod_add_mod] at this
    rw [this]
    have := htl i
    split
    · rfl
    · omega
  have htinj : ∀ i j, i < k → j < k → (7 * i + s) % k = (7 * j + s) % k → i = j := by
    intro i j hi hj e
    refine hinj i j hi hj ?_
    rw [ht i, ht j] at e
    have := Nat.mod_lt (7 * i) (show k > 0 by omega)
    have := Nat.mod_lt (7 * j) (show k > 0 by omega)
    split at e <;> split at e <;> omega
  have hex : ∀ y, y < k → ∃ i, i < k ∧ (7 * i + s) % k = y := by
    intro y hy
    obtain ⟨i, hi, he⟩ := hsur (if s % k ≤ y then y - s % k else y + k - s % k) (by split <;> omega)
    refine ⟨i, hi, ?_⟩
    rw [ht, he]
    split <;> split <;> omega
  have hxl : ∀ j, xR k s j < k := fun j => Nat.mod_lt _ (by omega)
  have hxj : ∀ j, j ≤ k → xR k s j = if s % k + j < k then s % k + j else s % k + j - k := fun j hj => modadd hr hj
  obtain ⟨cx, hcx⟩ : ∃ cx : Nat → Nat, ∀ j, cx j < k ∧ (7 * cx j + s) % k = xR k s j := ⟨fun j => Classical.choose (hex _ (hxl j)), fun j => Classical.choose_spec (hex _ (hxl j))⟩
  have hcx0 : cx 0 = 0 := by
    refine htinj _ _ (hcx 0).1 (by omega) ?_
    rw [(hcx 0).2]
    unfold xR
    simp
  have hxinj : ∀ i j, i < k → j < k → xR k s i = xR k s j → i = j := by
    intro i j hi hj e
    rw [hxj i (by omega), hxj j (by omega)] at e
    split at e <;> split at e <;> omega
  have hcxinj : ∀ i j, i < k → j < k → cx i = cx j → i = j := fun i j hi hj e => hxinj i j hi hj (by rw [← (hcx i).2, ← (hcx j).2, e])
  have hfx : ∀ j, j < k → (7 * cx j + s + 1) % k = xR k s (j + 1) := by
    intro j hj
    rw [hf, (hcx j).2, hxj j (by omega), hxj (j + 1) (by omega)]
    split <;> split <;> split <;> omega
  have hxk : xR k s k = xR k s 0 := by rw [hxj k (Nat.le_refl _), hxj 0 (by omega)]; split <;> split <;> omega
  have hfinj : ∀ i j, i < k → j < k → (7 * i + s + 1) % k = (7 * j + s + 1) % k → i = j := by
    intro i j hi hj e
    refine htinj i j hi hj ?_
    rw [hf i, hf j] at e
    have := htl i
    have := htl j
    split at e <;> split at e <;> omega
  have hrd : ∀ j, j < k → rdrs (gR k s) k ((xR k s (j + 1) : Nat) : Int) = [cx j] := by
    intro j hj
    unfold rdrs
    rw [filter_one _ (cx j) k (fun i hi => ?_), if_pos (hcx j).1]
    rw [decide_eq_true_iff]
    show ((((7 * i + s + 1) % k : Nat) : Int)) = _ ↔ _
    rw [Int.natCast_inj, ← hfx j hj]
    exact ⟨fun e => hfinj _ _ hi (hcx j).1 e, fun e => by rw [e]⟩
  -- what is laid out
  have hne : ∀ i, i < k → (gR k s i).tc ≠ (gR k s i).frm := by
    intro i hi e
    have e2 : (7 * i + s) % k = (7 * i + s + 1) % k := Int.natCast_inj.1 e
    rw [hf i] at e2
    have := htl i
    split at e2 <;> omega
  obtain ⟨b1, b2, b3, b4, b5⟩ := build_spec (gR k s) k (by omega) hne (fun i j hi hj e => htinj i j hi hj (Int.natCast_inj.1 e)) k (Nat.le_refl _)
  obtain ⟨B, hB⟩ : ∃ B, buildP ((List.range k).map (gR k s)) bs0 = B := ⟨_, rfl⟩
  rw [hB] at b1 b2 b3 b4 b5
  unfold sortedP
  rw [hB]
  dsimp only
  have hlen : B.ws.length = k := by rw [b1]; simp
  rw [hlen]
  obtain ⟨S0, hS0⟩ : ∃ S0 : MS, S0 = ⟨B.ws, none, none, B.reads, []⟩ := ⟨_, rfl⟩
  rw [← hS0]
  have hwt : ∀ i, i < k → S0.wt i = ⟨(((7 * i + s) % k : Nat) : Int), (((7 * i + s + 1) % k : Nat) : Int), false, none⟩ := by
    intro i hi
    rw [hS0]
    unfold MS.wt
    rw [b1]
    simp [List.getD_eq_getElem?_getD, hi, gR]
  have hrdL : rdrs (gR k s) k ((xR k s 0 : Nat) : Int) = [cx (k - 1)] := by
    have h := hrd (k - 1) (by omega)
    rw [show k - 1 + 1 = k by omega, hxk] at h
    exact h
  have hrd0 : ∀ j, j < k → S0.rd ((xR k s j : Nat) : Int) = 1 := by
    intro j hj
    have h1 : S0.rd ((xR k s j : Nat) : Int) = (rdrs (gR k s) k ((xR k s j : Nat) : Int)).length := by rw [hS0]; exact b5 _
    rw [h1]
    cases j with
    | zero => rw [hrdL]; rfl
    | succ j => rw [hrd j (by omega)]; rfl
  have hcell : ∀ i, i < k → ∃ j, j < k ∧ (7 * i + s) % k = xR k s j := by
    intro i hi
    refine ⟨if s % k ≤ (7 * i + s) % k then (7 * i + s) % k - s % k else (7 * i + s) % k + k - s % k, ?_, ?_⟩
    · have := htl i; split <;> omega
    · have := htl i
      rw [hxj _ (by split <;> omega)]
      split <;> split <;> omega
  rw [freeP_none _ S0 (fun i hi => by
    have hi' : i < k := by simpa using hi
    obtain ⟨j, hj, e⟩ := hcell i hi'
    rw [hwt i hi', e, hrd0 j hj]; decide)]
  have hgo : goP B.toF (k + 1 + extra) S0 = some S0 := by
    rw [show k + 1 + extra = (k + extra) + 1 by omega, goP, hS0]
  rw [hgo]
  dsimp only
  -- the ring
  have hd : List.range k = 0 :: (List.range (k - 1)).map (· + 1) := by
    obtain ⟨m, hm⟩ : ∃ m, k = m + 1 := ⟨k - 1, by omega⟩
    rw [hm, List.range_succ_eq_map]; rfl
  have hSl : S0.ws.length = k := by rw [hS0]; exact hlen
  have hSf : S0.first = none := by rw [hS0]
  have hSo : S0.out = [] := by rw [hS0]
  have hx0 : (7 * 0 + s) % k = xR k s 0 := by have := (hcx 0).2; rw [hcx0] at this; exact this
  have hcl : cx (k - 1) ≠ 0 := by
    intro e
    have := hcxinj (k - 1) 0 (by omega) (by omega) (by rw [e, hcx0])
    omega
  let S1 : MS := { S0 with out := [⟨(k : Int), ((xR k s 0 : Nat) : Int)⟩] }
  let S2 : MS := S1.setW (cx (k - 1)) { S0.wt (cx (k - 1)) with frm := (k : Int) }
  have hw2 : ∀ j, j < k → S2.wt (cx j) = ⟨((xR k s j : Nat) : Int), if j + 1 = k then (k : Int) else ((xR k s (j + 1) : Nat) : Int), false, none⟩ := by
    intro j hj
    by_cases hjk : j + 1 = k
    · have : j = k - 1 := by omega
      subst this
      rw [if_pos hjk]
      have h1 : S2.wt (cx (k - 1)) = { S0.wt (cx (k - 1)) with frm := (k : Int) } := wt_set_self (s := S1) (by show cx (k - 1) < S0.ws.length; rw [hSl]; exact (hcx _).1) _
      rw [h1, hwt _ (hcx _).1, (hcx _).2]
    · rw [if_neg hjk]
      have h1 : S2.wt (cx j) = S1.wt (cx j) := wt_set_ne (s := S1) (fun e => hjk (by have := hcxinj _ _ (by omega) hj e; omega)) _
      have h2 : S1.wt (cx j) = S0.wt (cx j) := rfl
      rw [h1, h2, hwt _ (hcx _).1, (hcx _).2, hfx j hj]
  let S3 : MS := { S2 with reads := updI S2.reads ((xR k s 0 : Nat) : Int) (some 0) }
  have hw3 : ∀ j, j < k → S3.wt (cx j) = ⟨((xR k s j : Nat) : Int), if j + 1 = k then (k : Int) else ((xR k s (j + 1) : Nat) : Int), false, none⟩ := hw2
  let S4 : MS := { (S3.setW 0 { S3.wt 0 with next := none }) with first := some 0, last := some 0 }
  have hl2 : S2.ws.length = k := by show (S1.setW _ _).ws.length = k; rw [len_set]; exact hSl
  have hw4 : ∀ j, j < k → S4.wt (cx j) = ⟨((xR k s j : Nat) : Int), if j + 1 = k then (k : Int) else ((xR k s (j + 1) : Nat) : Int), false, none⟩ := by
    intro j hj
    by_cases hj0 : cx j = 0
    · have h1 : S4.wt 0 = { S3.wt 0 with next := none } := wt_set_self (s := S3) (by show 0 < S2.ws.length; omega) _
      have h2 := hw3 j hj
      rw [hj0] at h2 ⊢
      rw [h1, h2]
    · have h1 : S4.wt (cx j) = S3.wt (cx j) := wt_set_ne (s := S3) (fun e => hj0 e.symm) _
      rw [h1, hw3 j hj]
  have hl4 : S4.ws.length = k := by show (S3.setW _ _).ws.length = k; rw [len_set]; exact hl2
  have hrun : ringP B.toF B.wants k (k + 1 + extra) S0 0 = goP B.toF (k + 1 + extra) S4 := by
    unfold ringP
    have h0 := hwt 0 (by omega)
    have h20 : (S2.wt 0).tc = ((xR k s 0 : Nat) : Int) := by
      have := hw2 0 (by omega)
      rw [hcx0] at this
      rw [this]
    rw [h0, hx0, if_neg (by simp)]
    dsimp only
    rw [b4, hrdL, hSo]
    have ht : turnP (k : Int) [cx (k - 1)] { S0 with out := [] ++ [⟨(k : Int), ((xR k s 0 : Nat) : Int)⟩] } = S2 := by
      rw [turnP, turnP]
      have : (({ S0 with out := [] ++ [⟨(k : Int), ((xR k s 0 : Nat) : Int)⟩] } : MS).wt (cx (k - 1))) = S0.wt (cx (k - 1)) := rfl
      rw [this, hwt _ (hcx _).1, if_neg (by simp)]
      show S1.setW _ _ = S1.setW _ _
      rw [hwt _ (hcx _).1]
    rw [ht, h20, put_empty S3 0 (by show S0.first = none; exact hSf)]
  have hcs : cx 0 :: (List.range (k - 1)).map (fun j => cx (j + 1)) = (List.range k).map cx := by
    rw [hd, List.map_cons, List.map_map]; rfl
  have hnth : ∀ (j a : Nat), (cx 0 :: (List.range (k - 1)).map (fun j => cx (j + 1)))[j]? = some a → j < k ∧ a = cx j := by
    intro j a h
    rw [hcs, List.getElem?_map] at h
    by_cases hj : j < k
    · rw [List.getElem?_range hj] at h
      exact ⟨hj, by simpa using h.symm⟩
    · rw [List.getElem?_eq_none (by simpa using hj)] at h
      cases h
  have hmem : ∀ i, i ∈ (cx 0 :: (List.range (k - 1)).map (fun j => cx (j + 1))) → ∃ j, j < k ∧ i = cx j := by
    intro i h
    rw [hcs, List.mem_map] at h
    obtain ⟨j, hj, e⟩ := h
    exact ⟨j, by simpa using hj, e.symm⟩
  have hall : ∀ i, i < k → i ∈ (cx 0 :: (List.range (k - 1)).map (fun j => cx (j + 1))) := by
    intro i hi
    obtain ⟨j, hj, e⟩ := hcell i hi
    rw [hcs, List.mem_map]
    exact ⟨j, by simpa using hj, htinj _ _ (hcx j).1 hi (by rw [(hcx j).2, e])⟩
  have hch : Chain B.toF S4 (cx 0) ((List.range (k - 1)).map (fun j => cx (j + 1))) := by
    refine ⟨by rw [hcx0], by rw [hw4 0 (by omega)], ?_, fun i hi => ?_, fun i hi => ?_, fun j a b ha hb => ?_, fun a ha => ?_⟩
    · rw [hcs]
      refine List.pairwise_map.2 ?_
      refine List.Pairwise.imp_of_mem ?_ List.nodup_range
      intro a b ha hb hab e
      exact hab (hcxinj a b (by simpa using ha) (by simpa using hb) e)
    · obtain ⟨j, hj, e⟩ := hmem i hi
      rw [hl4, e]; exact (hcx j).1
    · obtain ⟨j, hj, e⟩ := hmem i hi
      rw [e, hw4 j hj]
    · obtain ⟨hj, e1⟩ := hnth j a ha
      obtain ⟨hj2, e2⟩ := hnth (j + 1) b hb
      rw [e1, e2, hw4 j hj, if_neg (by omega)]
      refine ⟨?_, ?_⟩
      · have := b2 (cx (j + 1)) (hcx _).1
        rw [show (gR k s (cx (j + 1))).tc = ((xR k s (j + 1) : Nat) : Int) by rw [← (hcx (j + 1)).2]; rfl] at this
        exact this
      · have h1 : S4.rd ((xR k s (j + 1) : Nat) : Int) = S0.rd ((xR k s (j + 1) : Nat) : Int) := by
          unfold MS.rd
          show (updI S0.reads ((xR k s 0 : Nat) : Int) (some 0) ((xR k s (j + 1) : Nat) : Int)).getD 0 = _
          unfold updI
          rw [if_neg (fun e => by
            have := hxinj _ _ hj2 (by omega) (Int.natCast_inj.1 e)
            omega)]
        rw [h1, hrd0 _ hj2]
    · rw [List.length_map, List.length_range] at ha
      obtain ⟨hj, e1⟩ := hnth (k - 1) a ha
      rw [e1, hw4 _ hj, if_pos (by omega)]
      refine b3 _ (fun i hi e => ?_)
      have e2 : (7 * i + s) % k = k := Int.natCast_inj.1 e
      have := htl i
      omega
  obtain ⟨s', g1, g2, g3, g4, g5, g6, g7, g8⟩ := chain_go B.toF _ _ S4 extra hch
  rw [hd, ringsP, hrun]
  rw [List.length_map, List.length_range, show k - 1 + 2 + extra = k + 1 + extra by omega] at g1
  rw [g1]
  dsimp only
  rw [ringsP_done _ _ _ _ _ s' (fun i hi => by
    rw [List.mem_map] at hi
    obtain ⟨j, hj, e⟩ := hi
    exact g6 i (hall i (by simp at hj; omega)))]
  rw [Option.map_some, g2, hcs, List.map_map]
  unfold outR
  have ho4 : S4.out = [⟨(k : Int), ((xR k s 0 : Nat) : Int)⟩] := rfl
  rw [ho4, List.singleton_append]
  congr 2
  apply List.map_congr_left
  intro j hj
  have hj : j < k := by simpa using hj
  show (⟨(S4.wt (cx j)).tc, (S4.wt (cx j)).frm⟩ : Mv) = _
  rw [hw4 j hj]
end Go.Proofs.Ytihnmhemhcmmoaa
