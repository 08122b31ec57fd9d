/- What a package needs, in plain words; and slices.Backward by its contract. -/
import Derived.RangeFuncNested
import Derived.RangeFuncBound
import Derived.RangeFuncCalls
import Derived.RangeFuncLeaves
import Derived.RangeFuncWrites
import Derived.Shelf.Abstract
import Derived.Shelf.RegionOpen
import Derived.WalkKit
import Derived.OwnWalkIn
import Derived.TacticsInMore
import Derived.LoopNIn
import Derived.LoopIn
import Derived.Test.YtfhmfdmcdmcaiaaD0
namespace Go.Proofs.Ytfhmfdmcdmcaiaa
open Go Go.RowKit Go.Sort Go.Shelf
set_option maxHeartbeats 4000000
set_option maxRecDepth 100000
attribute [local go_sem] Oper.semAt_some

/-! ### Plain -/
inductive Reach (E : Nat → List Int) (at_ : Nat) : Nat → Prop
  | here : Reach E at_ at_
  | step {i : Nat} {z : Int} : Reach E at_ i → z ∈ E i → Reach E at_ z.toNat
def stepM (E : Nat → List Int) (M : Nat → Bool) (x : Nat) : Nat → Bool := fun k => M k || ((E x).any (fun z => z.toNat == k) && M x)
def marks (E : Nat → List Int) (at_ : Nat) (out : List Nat) : Nat → Bool := out.foldr (fun x M => stepM E M x) (fun k => k == at_)
theorem marks_sound (E : Nat → List Int) (at_ : Nat) : ∀ out k, marks E at_ out k = true → Reach E at_ k
  | [], k, h => by
    have : k = at_ := by simpa [marks] using h
    rw [this]; exact .here
  | x :: out, k, h => by
    have h1 : stepM E (marks E at_ out) x k = true := h
    unfold stepM at h1
    rw [Bool.or_eq_true, Bool.and_eq_true, List.any_eq_true] at h1
    rcases h1 with h1 | ⟨⟨z, hz, e⟩, h2⟩
    · exact marks_sound E at_ out k h1
    · have e2 : z.toNat = k := by simpa using e
      rw [← e2]
      exact .step (marks_sound E at_ out x h2) hz
theorem marks_up (E : Nat → List Int) (at_ : Nat) (k : Nat) : ∀ out, (k == at_) = true → marks E at_ out k = true
  | [], h => h
  | x :: out, h => by
    show stepM E (marks E at_ out) x k = true
    unfold stepM
    rw [marks_up E at_ k out h]; rfl
theorem marks_closed (E : Nat → List Int) (at_ : Nat) : ∀ (pre out : List Nat), (pre ++ out).Nodup → (∀ (i x : Nat), (pre ++ out)[i]? = some x → ∀ z ∈ E x, z.toNat ∈ (pre ++ out).take i) →
    ∀ i ∈ out, ∀ z ∈ E i, marks E at_ out i = true → marks E at_ out z.toNat = true
  | pre, [], _, _, i, hi, _, _, _ => by simp at hi
  | pre, a :: out, hnd, hbe, i, hi, z, hz, hm => by
    have hEa : ∀ z ∈ E a, z.toNat ∈ pre := fun z hz => by
      have := hbe pre.length a (by simp) z hz
      simpa using this
    have hno : ∀ j ∈ a :: out, ∀ z ∈ E a, z.toNat ≠ j := fun j hj z hz e => by
      rw [List.nodup_append] at hnd
      exact hnd.2.2 z.toNat (hEa z hz) j hj e
    have hst : ∀ j ∈ a :: out, marks E at_ (a :: out) j = marks E at_ out j := fun j hj => by
      show stepM E (marks E at_ out) a j = _
      unfold stepM
      have : ((E a).any fun z => z.toNat == j) = false := by
        rw [List.any_eq_false]
        intro z hz
        simpa using hno j hj z hz
      rw [this]; simp
    rw [hst i hi] at hm
    have hgo : marks E at_ (a :: out) z.toNat = (marks E at_ out z.toNat || ((E a).any (fun y => y.toNat == z.toNat) && marks E at_ out a)) := rfl
    rw [hgo]
    rcases List.mem_cons.1 hi with rfl | hi
    · have : ((E i).any fun y => y.toNat == z.toNat) = true := List.any_eq_true.2 ⟨z, hz, by simp⟩
      rw [this, hm]; simp
    · have h1 : ((pre ++ [a]) ++ out) = pre ++ a :: out := by simp
      have := marks_closed E at_ (pre ++ [a]) out (by rw [h1]; exact hnd) (by rw [h1]; exact hbe) i hi z hz hm
      rw [this]; rfl
theorem marks_reach {E : Nat → List Int} {at_ n : Nat} {out : List Nat} (hnd : out.Nodup) (hbe : ∀ (i x : Nat), out[i]? = some x → ∀ z ∈ E x, z.toNat ∈ out.take i) (hall : ∀ k, k < n → k ∈ out) (hat : at_ < n) (hlt : ∀ x ∈ out, x < n) (k : Nat) : marks E at_ out k = true ↔ Reach E at_ k := by
  refine ⟨marks_sound E at_ out k, fun h => ?_⟩
  have key : ∀ k, Reach E at_ k → k < n ∧ marks E at_ out k = true := by
    intro k h
    induction h with
    | here => exact ⟨hat, marks_up E at_ at_ out (by simp)⟩
    | step h hz ih =>
      rename_i i z
      obtain ⟨h1, h2⟩ := ih
      have hio := hall i h1
      obtain ⟨j, hj, e⟩ := List.getElem_of_mem hio
      have hzo := hbe j i (by rw [List.getElem?_eq_getElem hj, e]) z hz
      exact ⟨hlt _ (List.mem_of_mem_take hzo), marks_closed E at_ [] out (by simpa using hnd) (by simpa using hbe) i hio z hz h2⟩
  exact (key k h).2
theorem reach_lt {E : Nat → List Int} {at_ n : Nat} (hat : at_ < n) (hE : ∀ i, i < n → ∀ z ∈ E i, z.toNat < n) {k : Nat} (h : Reach E at_ k) : k < n := by
  induction h with
  | here => exact hat
  | step h hz ih => exact hE _ ih _ hz

/-! ### slices.Backward -/
theorem backward26 (F : Fence) (n : Nat) (h5 : F.fn 26) (hro : F.round = none) (a : Option Addr) (len cap : Nat) (w : World) :
    CallsIn F n Try.prog 26 #[.slice a len cap] w fun e w' => e = .returned (.func (.func 33) #[] #[.pointer (some ⟨w.heap.size, 0, none⟩)]) ∧ w' = w.alloc (.cells #[.slice a len cap] 26) := by
  refine callsIn_of_wp Try.func26 rfl h5 ?_ hro
  simp only [Try.ntmps26, List.size_toArray, List.length_cons, List.length_nil, Nat.reduceAdd, Nat.reduceSub, Array.replicate_succ, Array.replicate_zero, List.push_toArray, List.append_toArray, List.nil_append, List.cons_append]
  gi_wp2
  go_ret
  exact ⟨rfl, rfl⟩
/-- what the walk of the slice must keep: all below n₀ but one block -/
def KpI (n₀ In : Nat) (W W' : World) : Prop := ∀ b, b < n₀ → b ≠ In → W'.heap[b]? = W.heap[b]?
theorem KpI.t {n₀ In : Nat} {A B C : World} (h : KpI n₀ In A B) (k : KpI n₀ In B C) : KpI n₀ In A C := fun b h1 h2 => (k b h1 h2).trans (h b h1 h2)
theorem KpI.b {n₀ In : Nat} {w : World} (hn : n₀ ≤ w.heap.size) (W : World) (l : Nat) (o o' : Obj) (hl : w.heap.size ≤ l) (_ : W.heap[l]? = some o) (_ : o.isCells = false) (_ : o.isWalk = false) : KpI n₀ In W (W.putObj l o') := fun b h1 _ =>
  World.putObj_heap_other (fun e => by omega)
abbrev Px (n : Nat) := { x : Nat × Nat // x.2 < n }
def encB (n : Nat) (x : Px n) : Array Value := #[iv x.1.1, iv x.1.2]
theorem back33 (F : Fence) (n N : Nat) (h7 : F.fn 33) (hro : F.round = none) (hn : 1 ≤ n) (l Bs n₀ In b cap : Nat) (zs : List Nat) (hzs : ∀ z ∈ zs, z < N) (hreach : zs.length ≤ 1000) (hb : b < n₀) (hbi : b ≠ In) (hBs : Bs < n₀) (hBi : Bs ≠ In) (J Jx : List (Px N) → World → Prop)
    (hY : ∀ pre x W, J pre W → pre.length < zs.length → YieldAt F (n - 1) Try.prog l (encB N x) W fun e W' =>
      (e = .returned (.bool true) ∧ J (pre ++ [x]) W' ∧ KpI n₀ In W W') ∨ (e = .returned (.bool false) ∧ Jx (pre ++ [x]) W'))
    (W : World) (hc0 : W.cell? ⟨Bs, 0, none⟩ = some (.slice (some ⟨b, 0, none⟩) zs.length cap)) (hc : ∀ (j x : Nat), zs[j]? = some x → W.cell? ⟨b, j, none⟩ = some (iv x)) (h0 : J [] W) :
    CallsIn F n Try.prog 33 #[.func (.yield l) #[] #[], .pointer (some ⟨Bs, 0, none⟩)] W fun e W' => (∃ v, e = .returned v) ∧
      ((∃ ys : List (Px N), ys.map (fun x => x.1.2) = zs.reverse ∧ J ys W') ∨ (∃ pre, True ∧ Jx pre W')) := by
  refine callsIn_of_wp Try.func33 rfl h7 ?_ hro
  simp only [Try.ntmps33, List.size_toArray, List.length_cons, List.length_nil, Nat.reduceAdd, Nat.reduceSub, Array.replicate_succ, Array.replicate_zero, List.push_toArray, List.append_toArray, List.nil_append, List.cons_append]
  have HC := Lib.hid hc
  have HZ := Lib.hid hzs
  clear hc hzs
  gi_wp2
  gi_loopw [3] (fun i wr => ∃ (d : Nat) (ys : List (Px N)), d ≤ zs.length ∧ i = .int .i64 ((zs.length : Int) - 1 - (d : Int)) ∧ Hid (ys.map (fun x => x.1.2) = zs.reverse.take d) ∧ J ys wr ∧ KpI n₀ In W wr)
    (fun i _ => (intOf i + 1).toNat)
  case atStart => exact ⟨0, [], Nat.zero_le _, by simp, Lib.hid (by simp), h0, fun _ _ _ => rfl⟩
  case round =>
    obtain ⟨d, ys, hd, rfl, HYS, hJs, hnx⟩ := hrel
    have k0 : wr.cell? ⟨Bs, 0, none⟩ = some (.slice (some ⟨b, 0, none⟩) zs.length cap) := (World.cell?_of_block (hnx Bs hBs hBi)).trans hc0
    by_cases hdl : d < zs.length
    · obtain ⟨k, hk⟩ : ∃ k : Nat, k + d + 1 = zs.length := ⟨zs.length - 1 - d, by omega⟩
      have ek : (zs.length : Int) - 1 - (d : Int) = (k : Int) := by omega
      have ek0 : ¬ (k : Int) < 0 := by omega
      have ek1 : (k : Int) < (zs.length : Int) := by omega
      obtain ⟨z, hz⟩ : ∃ z, zs[k]? = some z := ⟨_, List.getElem?_eq_getElem (by omega)⟩
      have k1 : wr.cell? ⟨b, k, none⟩ = some (iv z) := (World.cell?_of_block (hnx b hb hbi)).trans (HC.out k z hz)
      have hyl : ys.length = d := by
        have := congrArg List.length HYS.out
        rw [List.length_map, List.length_take, List.length_reverse] at this
        omega
      have hzN : z < N := HZ.out z (List.mem_of_getElem? hz)
      obtain ⟨fn, tmps, assign, body, hy, hR⟩ := hY ys ⟨(k, z), hzN⟩ wr hJs (by omega)
      have HYN : Hid ((ys ++ [(⟨(k, z), hzN⟩ : Px N)]).map (fun x => x.1.2) = zs.reverse.take (d + 1)) := Lib.hid (by
        rw [List.map_append, HYS.out, List.take_add_one, List.getElem?_reverse (by omega), show zs.length - 1 - d = k by omega, hz]
        rfl)
      unfold encB at hy
      dsimp only at hy
      rw [ek]
      have HK := Lib.hid hk
      clear hz hyl hk
      gi_wp2
      refine hR.mono ?_
      rintro e W3 (⟨rfl, hJ3, hk3⟩ | ⟨rfl, hJx3⟩)
      · gi_wp2
        go_roundw
        case rel => exact ⟨d + 1, _, by omega, by have := HK.out; go_num, HYN, hJ3, hnx.t hk3⟩
        case measure => simp [intOf] <;> omega
      · gi_wp2
        refine bodyPost_ret (results_none rfl _ _ _) rfl ?_
        exact ⟨⟨_, rfl⟩, .inr ⟨_, trivial, hJx3⟩⟩
    · obtain rfl : d = zs.length := by omega
      have ek : (zs.length : Int) - 1 - (zs.length : Int) = -1 := by omega
      have HYN : Hid (ys.map (fun x => x.1.2) = zs.reverse) := Lib.hid (by
        rw [HYS.out, List.take_of_length_le (by simp)])
      rw [ek]
      gi_wp2
      go_end0
      exact ⟨⟨_, rfl⟩, .inl ⟨_, HYN.out, hJs⟩⟩
end Go.Proofs.Ytfhmfdmcdmcaiaa
