/- In which order packages come: what the program keeps while it works, in plain words. -/
import Derived.Test.YtfhmfdmcdmcaiaaB0
namespace Go.Proofs.Ytfhmfdmcdmcaiaa
open Go
set_option maxHeartbeats 1000000

/-- what is known of what is wanted -/
structure Rows0 (n : Nat) (E : Nat → List Int) : Prop where
  nd : ∀ k, k < n → (E k).Nodup
  lo : ∀ k, k < n → ∀ x ∈ E k, 0 ≤ x
theorem lacks_list (out : List Nat) (x : Nat) (hx : x ∉ out) : ∀ l : List Int, l.Nodup → (∀ y ∈ l, 0 ≤ y) → (l.filter fun y => !(out ++ [x]).contains y.toNat).length + (if (x : Int) ∈ l then 1 else 0) = (l.filter fun y => !out.contains y.toNat).length
  | [], _, _ => by simp
  | y :: l, hnd, h0 => by
    rw [List.nodup_cons] at hnd
    have ih := lacks_list out x hx l hnd.2 (fun z hz => h0 z (by simp [hz]))
    have hy := h0 y (by simp)
    by_cases e : y = (x : Int)
    · subst e
      have h1 : (!(out ++ [x]).contains ((x : Int).toNat)) = false := by simp
      have h2 : (!out.contains ((x : Int).toNat)) = true := by simp [hx]
      rw [List.filter_cons, h1, List.filter_cons, h2, if_neg (by simp), if_pos rfl, if_pos (by simp)]
      rw [if_neg hnd.1] at ih
      simp only [List.length_cons]
      omega
    · have hne : y.toNat ≠ x := by omega
      have h1 : (!(out ++ [x]).contains y.toNat) = !out.contains y.toNat := by simp [hne]
      have h3 : ((x : Int) ∈ y :: l) ↔ (x : Int) ∈ l := by simp [Ne.symm e]
      rw [List.filter_cons, h1, List.filter_cons]
      by_cases h4 : (x : Int) ∈ l
      · rw [if_pos (h3.2 h4)]
        rw [if_pos h4] at ih
        split <;> (try simp only [List.length_cons]) <;> omega
      · rw [if_neg (fun h => h4 (h3.1 h))]
        rw [if_neg h4] at ih
        split <;> (try simp only [List.length_cons]) <;> omega
theorem lacks_snoc {n : Nat} {E : Nat → List Int} (hE : Rows0 n E) (out : List Nat) (x k : Nat) (hk : k < n) (hx : x ∉ out) : lacksP E (out ++ [x]) k + (if (x : Int) ∈ E k then 1 else 0) = lacksP E out k :=
  lacks_list out x hx (E k) (hE.nd k hk) (hE.lo k hk)
/-- between two rounds -/
structure Inv1 (nm : List ByteArray) (E : Nat → List Int) (out h L : List Nat) : Prop where
  ond : out.Nodup
  olt : ∀ x ∈ out, x < nm.length
  ogo : goO nm E (nm.length - out.length) out = orderP nm E
  hnd : h.Nodup
  hmem : ∀ y, y ∈ h ↔ y < nm.length ∧ y ∉ out ∧ L.getD y 1 = 0
  len : L.length = nm.length
  lac : ∀ k, k < nm.length → L.getD k 1 = lacksP E out k
  odn : ∀ k ∈ out, lacksP E out k = 0
/-- within a round: x has come -/
structure Inv2 (nm : List ByteArray) (E : Nat → List Int) (out : List Nat) (x k : Nat) (h L : List Nat) : Prop where
  hnd : h.Nodup
  hmem : ∀ y, y ∈ h ↔ y < nm.length ∧ y ∉ out ++ [x] ∧ L.getD y 1 = 0
  len : L.length = nm.length
  lac : ∀ j, j < nm.length → L.getD j 1 = if j < k then lacksP E (out ++ [x]) j else lacksP E out j
theorem len_le {l : List Nat} {n : Nat} (hnd : l.Nodup) (h : ∀ x ∈ l, x < n) : l.length ≤ n := by
  have := hnd.length_le_of_subset (l₂ := List.range n) (fun x hx => by simpa using h x hx)
  simpa using this
theorem Inv1.pop {nm : List ByteArray} {E : Nat → List Int} {out h L h1 : List Nat} {x : Nat} (H : Inv1 nm E out h L) (hp : (x :: h1).Perm h) : Inv2 nm E out x 0 h1 L ∧ x < nm.length ∧ x ∉ out ∧ lacksP E out x = 0 ∧ nextP E out x = true := by
  have hxm : x ∈ h := hp.mem_iff.1 (by simp)
  obtain ⟨g1, g2, g3⟩ := (H.hmem x).1 hxm
  have hnd := hp.nodup_iff.2 H.hnd
  rw [List.nodup_cons] at hnd
  have hl : lacksP E out x = 0 := by rw [← H.lac x g1]; exact g3
  refine ⟨⟨hnd.2, fun y => ?_, H.len, fun j hj => by rw [H.lac j hj, if_neg (by omega)]⟩, g1, g2, hl, ?_⟩
  · have h2 : y ∈ h ↔ y = x ∨ y ∈ h1 := by rw [← hp.mem_iff]; simp
    constructor
    · intro hy
      obtain ⟨a1, a2, a3⟩ := (H.hmem y).1 (h2.2 (.inr hy))
      have : y ≠ x := fun e => hnd.1 (by rw [← e]; exact hy)
      exact ⟨a1, by simp [a2, this], a3⟩
    · rintro ⟨a1, a2, a3⟩
      rw [List.mem_append, List.mem_singleton] at a2
      rcases h2.1 ((H.hmem y).2 ⟨a1, fun e => a2 (.inl e), a3⟩) with e | e
      · exact absurd (.inr e) a2
      · exact e
  · unfold nextP
    rw [(ready_lacks E out x).2 hl]
    simp [g2]
theorem next_iff {nm : List ByteArray} {E : Nat → List Int} {out h L : List Nat} (H : Inv1 nm E out h L) (y : Nat) (hy : y < nm.length) : nextP E out y = true ↔ y ∈ h := by
  unfold nextP
  rw [Bool.and_eq_true, ready_lacks, H.hmem, H.lac y hy]
  simp [hy]
theorem getD_set_self {l : List Nat} {i x d : Nat} (hi : i < l.length) : (l.set i x).getD i d = x := by
  simp only [List.getD_eq_getElem?_getD]
  rw [List.getElem?_set_self hi]; rfl
theorem getD_set_ne {l : List Nat} {i j x d : Nat} (h : j ≠ i) : (l.set i x).getD j d = l.getD j d := by
  simp only [List.getD_eq_getElem?_getD]
  rw [List.getElem?_set_ne (Ne.symm h)]
theorem Inv2.skip {nm : List ByteArray} {E : Nat → List Int} {out h L : List Nat} {x k : Nat} (hE : Rows0 nm.length E) (H : Inv2 nm E out x k h L) (hx : x ∉ out) (hn : (x : Int) ∉ E k) : Inv2 nm E out x (k + 1) h L := by
  refine ⟨H.hnd, H.hmem, H.len, fun j hj => ?_⟩
  rw [H.lac j hj]
  by_cases e : j = k
  · subst e
    have := lacks_snoc hE out x j hj hx
    rw [if_neg hn] at this
    rw [if_neg (by omega), if_pos (by omega)]
    omega
  · by_cases h1 : j < k
    · rw [if_pos h1, if_pos (by omega)]
    · rw [if_neg h1, if_neg (by omega)]
theorem Inv2.less {nm : List ByteArray} {E : Nat → List Int} {out h L : List Nat} {x k m : Nat} (hE : Rows0 nm.length E) (H : Inv2 nm E out x k h L) (hk : k < nm.length) (hx : x ∉ out) (hn : (x : Int) ∈ E k) (hm : L.getD k 1 = m) (hdn : ∀ j ∈ out, lacksP E out j = 0) (hlx : lacksP E out x = 0) :
    0 < m ∧ k ∉ h ∧ (m - 1 ≠ 0 → Inv2 nm E out x (k + 1) h (L.set k (m - 1))) ∧ (m - 1 = 0 → ∀ h', h'.Perm (h ++ [k]) → Inv2 nm E out x (k + 1) h' (L.set k (m - 1))) := by
  have h1 := lacks_snoc hE out x k hk hx
  rw [if_pos hn] at h1
  have h2 := H.lac k hk
  rw [if_neg (by omega), hm] at h2
  have hm0 : 0 < m := by omega
  have hkh : k ∉ h := fun e => by
    have := ((H.hmem k).1 e).2.2
    omega
  have hko : k ∉ out ++ [x] := by
    rw [List.mem_append, List.mem_singleton]
    rintro (e | e)
    · have := hdn k e; omega
    · subst e; omega
  have hkl : k < L.length := by rw [H.len]; exact hk
  have hlac : ∀ j, j < nm.length → (L.set k (m - 1)).getD j 1 = if j < k + 1 then lacksP E (out ++ [x]) j else lacksP E out j := by
    intro j hj
    by_cases e : j = k
    · subst e
      rw [getD_set_self hkl, if_pos (by omega)]; omega
    · rw [getD_set_ne e, H.lac j hj]
      by_cases h3 : j < k
      · rw [if_pos h3, if_pos (by omega)]
      · rw [if_neg h3, if_neg (by omega)]
  refine ⟨hm0, hkh, fun hz => ⟨H.hnd, fun y => ?_, by simpa using H.len, hlac⟩, fun hz h' hp => ⟨?_, fun y => ?_, by simpa using H.len, hlac⟩⟩
  · by_cases e : y = k
    · subst e
      rw [getD_set_self hkl]
      exact ⟨fun e => absurd e hkh, fun e => absurd e.2.2 hz⟩
    · rw [getD_set_ne e]; exact H.hmem y
  · rw [hp.nodup_iff, List.nodup_append]
    refine ⟨H.hnd, by simp, fun a ha b hb => ?_⟩
    simp at hb
    rw [hb]
    exact fun e => hkh (by rw [← e]; exact ha)
  · rw [hp.mem_iff, List.mem_append, List.mem_singleton]
    by_cases e : y = k
    · subst e
      rw [getD_set_self hkl]
      exact ⟨fun _ => ⟨hk, hko, hz⟩, fun _ => .inr rfl⟩
    · rw [getD_set_ne e, ← H.hmem y]
      simp [e]
theorem Inv2.end_ {nm : List ByteArray} {E : Nat → List Int} {out h h0 L L0 : List Nat} {x : Nat} (hE : Rows0 nm.length E) (H : Inv2 nm E out x nm.length h L) (H1 : Inv1 nm E out h0 L0) (hx : x < nm.length) (hxo : x ∉ out) (hl : lacksP E out x = 0) (hb : bestP nm E out nm.length = some x) : Inv1 nm E (out ++ [x]) h L ∧ out.length < nm.length := by
  have hnd : (out ++ [x]).Nodup := by
    rw [List.nodup_append]
    refine ⟨H1.ond, by simp, fun a ha b hb => ?_⟩
    simp at hb
    rw [hb]
    exact fun e => hxo (by rw [← e]; exact ha)
  have hlt : ∀ y ∈ out ++ [x], y < nm.length := fun y hy => by
    rw [List.mem_append, List.mem_singleton] at hy
    rcases hy with e | e
    · exact H1.olt y e
    · rw [e]; exact hx
  have hlen := len_le hnd hlt
  rw [List.length_append, List.length_singleton] at hlen
  have hdn : ∀ k ∈ out ++ [x], lacksP E (out ++ [x]) k = 0 := fun k hk => by
    have h1 := lacks_snoc hE out x k (hlt k hk) hxo
    have h2 : lacksP E out k = 0 := by
      rw [List.mem_append, List.mem_singleton] at hk
      rcases hk with e | e
      · exact H1.odn k e
      · rw [e]; exact hl
    omega
  refine ⟨⟨hnd, hlt, ?_, H.hnd, H.hmem, H.len, fun k hk => by rw [H.lac k hk, if_pos hk], hdn⟩, by omega⟩
  rw [← H1.ogo, List.length_append, List.length_singleton]
  obtain ⟨d, hd⟩ : ∃ d, nm.length - out.length = d + 1 := ⟨nm.length - out.length - 1, by omega⟩
  rw [hd, show nm.length - (out.length + 1) = d by omega, goO, hb]
theorem Inv1.fin {nm : List ByteArray} {E : Nat → List Int} {out L : List Nat} (H : Inv1 nm E out [] L) : out = orderP nm E ∧ ∀ k, k < nm.length → (L.getD k 1 = 0 ↔ k ∈ out) := by
  have hb : bestP nm E out nm.length = none := by
    cases h : bestP nm E out nm.length with
    | none => rfl
    | some b =>
      obtain ⟨h1, h2, _⟩ := best_some _ b h
      have := (next_iff H b h1).1 h2
      simp at this
  refine ⟨?_, fun k hk => ?_⟩
  · rw [← H.ogo]
    cases nm.length - out.length with
    | zero => rfl
    | succ f => rw [goO, hb]
  · constructor
    · intro h
      apply Classical.byContradiction
      intro hno
      have := (H.hmem k).2 ⟨hk, hno, h⟩
      simp at this
    · intro h
      rw [H.lac k hk]
      exact H.odn k h
theorem Inv1.best {nm : List ByteArray} {E : Nat → List Int} {out h L : List Nat} (H : Inv1 nm E out h L) (ha : Apart nm) {x : Nat} (hx : x ∈ h) (hm : ∀ y ∈ h, ltN nm y x = false) : bestP nm E out nm.length = some x := by
  have hxl := ((H.hmem x).1 hx).1
  exact best_is ha hxl ((next_iff H x hxl).2 hx) (fun k hk hn => hm k ((next_iff H k hk).1 hn))
/-- at the beginning: those below i that want nothing are there -/
structure Inv0 (nm : List ByteArray) (E : Nat → List Int) (i : Nat) (h L : List Nat) : Prop where
  hnd : h.Nodup
  hmem : ∀ y, y ∈ h ↔ y < i ∧ (E y).length = 0
  len : L.length = nm.length
  lac : ∀ k, k < i → L.getD k 1 = (E k).length
theorem lacks_nil (E : Nat → List Int) (k : Nat) : lacksP E [] k = (E k).length := by
  unfold lacksP
  rw [List.filter_eq_self.2 (fun x _ => by simp)]
theorem Inv0.done {nm : List ByteArray} {E : Nat → List Int} {h L : List Nat} (H : Inv0 nm E nm.length h L) : Inv1 nm E [] h L := by
  refine ⟨by simp, by simp, rfl, H.hnd, fun y => ?_, H.len, fun k hk => by rw [lacks_nil]; exact H.lac k hk, by simp⟩
  rw [H.hmem]
  constructor
  · rintro ⟨h1, h2⟩
    exact ⟨h1, by simp, by rw [H.lac y h1]; exact h2⟩
  · rintro ⟨h1, _, h2⟩
    exact ⟨h1, by rw [← H.lac y h1]; exact h2⟩
theorem Inv0.step {nm : List ByteArray} {E : Nat → List Int} {i m : Nat} {h L : List Nat} (H : Inv0 nm E i h L) (hi : i < nm.length) (hm : (E i).length = m) : i ∉ h ∧ (m ≠ 0 → Inv0 nm E (i + 1) h (L.set i m)) ∧ (m = 0 → ∀ h', h'.Perm (h ++ [i]) → Inv0 nm E (i + 1) h' (L.set i m)) := by
  have hih : i ∉ h := fun e => by have := ((H.hmem i).1 e).1; omega
  have hil : i < L.length := by rw [H.len]; exact hi
  have hlac : ∀ k, k < i + 1 → (L.set i m).getD k 1 = (E k).length := by
    intro k hk
    by_cases e : k = i
    · subst e; rw [getD_set_self hil, hm]
    · rw [getD_set_ne e]; exact H.lac k (by omega)
  refine ⟨hih, fun hz => ⟨H.hnd, fun y => ?_, by simpa using H.len, hlac⟩, fun hz h' hp => ⟨?_, fun y => ?_, by simpa using H.len, hlac⟩⟩
  · rw [H.hmem]
    constructor
    · rintro ⟨h1, h2⟩; exact ⟨by omega, h2⟩
    · rintro ⟨h1, h2⟩
      refine ⟨?_, h2⟩
      have : y ≠ i := fun e => hz (by rw [← hm, ← e]; exact h2)
      omega
  · rw [hp.nodup_iff, List.nodup_append]
    refine ⟨H.hnd, by simp, fun a ha b hb => ?_⟩
    simp at hb
    rw [hb]
    exact fun e => hih (by rw [← e]; exact ha)
  · rw [hp.mem_iff, List.mem_append, List.mem_singleton, H.hmem]
    constructor
    · rintro (⟨h1, h2⟩ | e)
      · exact ⟨by omega, h2⟩
      · rw [e]; exact ⟨by omega, by rw [hm]; exact hz⟩
    · rintro ⟨h1, h2⟩
      by_cases e : y = i
      · exact .inr e
      · exact .inl ⟨by omega, h2⟩
end Go.Proofs.Ytfhmfdmcdmcaiaa
