/- Of copies, in plain words: the copies of a list, and one for each ring, are what is made. -/
import Derived.Test.YtihnmhemhcmmoaaD2
namespace Go.Proofs.Ytihnmhemhcmmoaa
open Go
set_option maxHeartbeats 1000000

def neB (m : Mv) : Bool := !decide (m.tc = m.frm)
def fromP : List Mv → Int → Int
  | [], _ => -1
  | m :: l, c => if m.tc = c ∧ m.frm ≠ c then m.frm else fromP l c
def ringM (all : List Mv) (m : Mv) : Bool := decide ((lapP (fromP all) m.tc (all.length + 1) m.frm true).1 = m.tc) && (lapP (fromP all) m.tc (all.length + 1) m.frm true).2
def numP (l : List Mv) : Nat := (l.filter neB).length
def ringsN (all l : List Mv) : Nat := ((l.filter neB).filter (ringM all)).length
def Good (ms : List Mv) (spare : Int) : Prop := 0 ≤ spare ∧ (∀ m ∈ ms, 0 ≤ m.tc ∧ 0 ≤ m.frm ∧ m.tc ≠ spare ∧ m.frm ≠ spare) ∧ (ms.map Mv.tc).Nodup
theorem buildP_filter : ∀ (l : List Mv) (b : BS), buildP (l.filter neB) b = buildP l b
  | [], b => rfl
  | m :: l, b => by
    rw [List.filter_cons, buildP_cons (m := m)]
    by_cases h : m.tc = m.frm
    · have e : neB m = false := by simp [neB, h]
      rw [e, if_neg (by simp), buildP_filter l]
      rw [if_pos h]
    · have e : neB m = true := by simp [neB, h]
      rw [e, if_pos rfl, buildP_cons, buildP_filter l]
theorem sortedP_filter (ms : List Mv) (spare : Int) (k : Nat) : sortedP (ms.filter neB) spare k = sortedP ms spare k := by
  unfold sortedP
  rw [buildP_filter]
theorem fromP_at : ∀ (l : List Mv) (m : Mv), m ∈ l → m.tc ≠ m.frm → (l.map Mv.tc).Nodup → fromP l m.tc = m.frm
  | [], m, h, _, _ => by simp at h
  | x :: l, m, h, hne, hnd => by
    rw [List.map_cons, List.nodup_cons] at hnd
    rw [fromP]
    rcases List.mem_cons.1 h with e | e
    · rw [← e, if_pos ⟨rfl, fun e => hne e.symm⟩]
    · have : x.tc ≠ m.tc := fun e2 => hnd.1 (by rw [e2]; exact List.mem_map_of_mem e)
      rw [if_neg (fun h => this h.1), fromP_at l m e hne hnd.2]
theorem fromP_of : ∀ (l : List Mv) (c : Int), fromP l c ≠ -1 → ∃ m, m ∈ l ∧ m.tc = c ∧ m.frm ≠ c ∧ fromP l c = m.frm
  | [], c, h => absurd rfl h
  | x :: l, c, h => by
    rw [fromP] at h ⊢
    by_cases hc : x.tc = c ∧ x.frm ≠ c
    · exact ⟨x, by simp, hc.1, hc.2, by rw [if_pos hc]⟩
    · rw [if_neg hc] at h ⊢
      obtain ⟨m, h1, h2⟩ := fromP_of l c h
      exact ⟨m, by simp [h1], h2⟩
theorem fromP_i64 : ∀ (l : List Mv) (c : Int), (∀ m ∈ l, I64 m.tc ∧ I64 m.frm) → I64 (fromP l c)
  | [], c, _ => by rw [fromP]; show (Lit.int .i64 (-1)).wf = true; rfl
  | x :: l, c, h => by
    rw [fromP]
    split
    · exact (h x (by simp)).2
    · exact fromP_i64 l c (fun m hm => h m (by simp [hm]))
theorem cnt_getD (p : Mv → Bool) (l : List Mv) : ∀ n, n ≤ l.length → cnt (fun i => p (l.getD i ⟨0, 0⟩)) n = ((l.take n).filter p).length
  | 0, _ => by simp [cnt]
  | n + 1, h => by
    rw [cnt, cnt_getD p l n (by omega), List.take_succ_eq_append_getElem (by omega), List.filter_append, List.length_append]
    have e : l.getD n ⟨0, 0⟩ = l[n] := by simp [List.getD_eq_getElem?_getD, List.getElem?_eq_getElem (show n < l.length by omega)]
    rw [e]
    cases hp : p l[n] <;> simp [hp]
theorem list_getD (l : List Mv) : (List.range l.length).map (fun i => l.getD i ⟨0, 0⟩) = l := by
  apply List.ext_getElem
  · simp
  · intro i h1 h2
    simp [List.getD_eq_getElem?_getD, List.getElem?_eq_getElem h2]
theorem nd_injI {l : List Int} (h : l.Nodup) {i j : Nat} (hi : i < l.length) (hj : j < l.length) (e : l[i] = l[j]) : i = j := by
  rcases Nat.lt_trichotomy i j with h1 | h1 | h1
  · exact absurd e (List.pairwise_iff_getElem.1 h i j hi hj h1)
  · exact h1
  · exact absurd e.symm (List.pairwise_iff_getElem.1 h j i hj hi h1)
theorem counts_plain (ms : List Mv) (spare : Int) (hms : ms.length ≤ 1000) (h : Good ms spare) (k : Nat) (hk : ms.length + 2 ≤ k) :
    ∃ l, sortedP ms spare k = some l ∧ l.length = numP ms + ringsN ms ms ∧ (∀ m ∈ l, m.tc ≠ m.frm) ∧ (ringsN ms ms = 0 → ∀ m ∈ l, m.tc ≠ spare ∧ m.frm ≠ spare) := by
  obtain ⟨h1, h2, h3⟩ := h
  obtain ⟨l, hl⟩ : ∃ l, ms.filter neB = l := ⟨_, rfl⟩
  have hll : l.length ≤ ms.length := by rw [← hl]; exact List.length_filter_le _ _
  have hmem : ∀ m, m ∈ l ↔ m ∈ ms ∧ m.tc ≠ m.frm := by
    intro m
    rw [← hl, List.mem_filter]
    simp [neB]
  have hnd : (l.map Mv.tc).Nodup := by
    rw [← hl]
    exact h3.sublist (List.Sublist.map _ List.filter_sublist)
  have hgm : ∀ i, i < l.length → l.getD i ⟨0, 0⟩ ∈ l := by
    intro i hi
    rw [List.getD_eq_getElem?_getD, List.getElem?_eq_getElem hi]
    exact List.getElem_mem _
  have hinj : ∀ i j, i < l.length → j < l.length → (l.getD i ⟨0, 0⟩).tc = (l.getD j ⟨0, 0⟩).tc → i = j := by
    intro i j hi hj e
    rw [List.getD_eq_getElem?_getD, List.getElem?_eq_getElem hi, List.getD_eq_getElem?_getD, List.getElem?_eq_getElem hj] at e
    have e : l[i].tc = l[j].tc := e
    exact nd_injI hnd (by simpa using hi) (by simpa using hj) (by simpa using e)
  have hfr : Fr (fun i => l.getD i ⟨0, 0⟩) l.length (fromP ms) := by
    refine ⟨fun i hi => ?_, fun c hc => ?_⟩
    · have := (hmem _).1 (hgm i hi)
      exact fromP_at ms _ this.1 this.2 h3
    · obtain ⟨m, e1, e2, e3, e4⟩ := fromP_of ms c hc
      have hm : m ∈ l := (hmem m).2 ⟨e1, by rw [e2]; exact fun e => e3 e.symm⟩
      obtain ⟨i, hi, e⟩ := List.getElem_of_mem hm
      have e5 : l.getD i ⟨0, 0⟩ = m := by rw [List.getD_eq_getElem?_getD, List.getElem?_eq_getElem hi, ← e]; rfl
      refine ⟨i, hi, ?_, ?_⟩
      · show (l.getD i ⟨0, 0⟩).tc = c
        rw [e5]; exact e2
      · show fromP ms c = (l.getD i ⟨0, 0⟩).frm
        rw [e5]; exact e4
  obtain ⟨o, o1, o2, o3, o4⟩ := sorted_num (fun i => l.getD i ⟨0, 0⟩) l.length (by omega) spare (fun i hi => by
    have := h2 _ ((hmem _).1 (hgm i hi)).1
    exact ⟨this.1, this.2.2⟩) (fun i hi => ((hmem _).1 (hgm i hi)).2) hinj (fromP ms) hfr (ms.length + 1) (by omega) k (by omega)
  rw [list_getD, ← hl, sortedP_filter] at o1
  have hr : cnt (ringB (fun i => l.getD i ⟨0, 0⟩) (fromP ms) (ms.length + 1)) l.length = ringsN ms ms := by
    have := cnt_getD (ringM ms) l l.length (Nat.le_refl _)
    rw [List.take_length] at this
    unfold ringsN
    rw [hl, ← this]
    rfl
  rw [hr] at o2 o4
  refine ⟨o, o1, ?_, o3, o4⟩
  rw [o2]
  unfold numP
  rw [hl]
theorem numP_succ (l : List Mv) (n : Nat) (h : n < l.length) : numP (l.take (n + 1)) = numP (l.take n) + if l[n].tc = l[n].frm then 0 else 1 := by
  unfold numP
  rw [List.take_succ_eq_append_getElem h, List.filter_append, List.length_append]
  by_cases e : l[n].tc = l[n].frm <;> simp [neB, e]
theorem ringsN_succ (all l : List Mv) (n : Nat) (h : n < l.length) : ringsN all (l.take (n + 1)) = ringsN all (l.take n) + if l[n].tc ≠ l[n].frm ∧ ringM all l[n] = true then 1 else 0 := by
  unfold ringsN
  rw [List.take_succ_eq_append_getElem h, List.filter_append, List.filter_append, List.length_append]
  by_cases e : l[n].tc = l[n].frm <;> cases e2 : ringM all l[n] <;> simp [neB, e, e2]
theorem good_badP {ms : List Mv} {spare : Int} (h : Good ms spare) : badP spare ms (fun _ => none) = false :=
  badP_false spare h.1 ms _ h.2.1 h.2.2 (fun _ _ => rfl)
end Go.Proofs.Ytihnmhemhcmmoaa
