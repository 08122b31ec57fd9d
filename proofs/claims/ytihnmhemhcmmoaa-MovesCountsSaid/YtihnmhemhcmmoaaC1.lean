/- Of copies, in plain words: what is laid out for a list of copies; a ring. -/
import Derived.Test.YtihnmhemhcmmoaaC0
import Derived.Test.YtihnmhemhcmmoaaA9
namespace Go.Proofs.Ytihnmhemhcmmoaa
open Go
set_option maxHeartbeats 1000000

theorem wrap1_in (a : Int) (h : -1000000000 ≤ a ∧ a ≤ 1000000000) : wrap1 a = a := by
  unfold wrap1
  rw [IntWalk.i64_left, IntWalk.wrap64_in _ (by omega)]
def bstep (b : BS) (m : Mv) : BS := if m.tc = m.frm then b else { ws := b.ws ++ [⟨m.tc, m.frm, false, none⟩], toF := updI b.toF m.tc (some b.ws.length), wants := updI b.wants m.frm (b.wants m.frm ++ [b.ws.length]), reads := updI b.reads m.frm (some (wrap1 ((b.reads m.frm).getD 0 + 1))) }
theorem buildP_append : ∀ (l : List Mv) (m : Mv) (b : BS), buildP (l ++ [m]) b = bstep (buildP l b) m
  | [], m, b => rfl
  | x :: l, m, b => by rw [List.cons_append, buildP_cons, buildP_cons, buildP_append]
/-- who reads a cell -/
def rdrs (g : Nat → Mv) (n : Nat) (c : Int) : List Nat := (List.range n).filter (fun i => decide ((g i).frm = c))
theorem rdrs_succ (g : Nat → Mv) (n : Nat) (c : Int) : rdrs g (n + 1) c = if (g n).frm = c then rdrs g n c ++ [n] else rdrs g n c := by
  unfold rdrs
  rw [List.range_succ, List.filter_append]
  by_cases h : (g n).frm = c <;> simp [h]
theorem rdrs_len (g : Nat → Mv) (n : Nat) (c : Int) : (rdrs g n c).length ≤ n := by
  unfold rdrs
  have := List.length_filter_le (fun i => decide ((g i).frm = c)) (List.range n)
  simpa using this
theorem build_spec (g : Nat → Mv) (N : Nat) (hN : N ≤ 1000000) (hne : ∀ i, i < N → (g i).tc ≠ (g i).frm) (hinj : ∀ i j, i < N → j < N → (g i).tc = (g j).tc → i = j) : ∀ n, n ≤ N →
    (buildP ((List.range n).map g) bs0).ws = (List.range n).map (fun i => ⟨(g i).tc, (g i).frm, false, none⟩) ∧ (∀ i, i < n → (buildP ((List.range n).map g) bs0).toF (g i).tc = some i) ∧ (∀ c, (∀ i, i < n → (g i).tc ≠ c) → (buildP ((List.range n).map g) bs0).toF c = none) ∧
    (∀ c, (buildP ((List.range n).map g) bs0).wants c = rdrs g n c) ∧ (∀ c, ((buildP ((List.range n).map g) bs0).reads c).getD 0 = (rdrs g n c).length)
  | 0, _ => ⟨rfl, fun i h => by omega, fun c _ => rfl, fun c => rfl, fun c => rfl⟩
  | n + 1, hn => by
    obtain ⟨h1, h2, h3, h4, h5⟩ := build_spec g N hN hne hinj n (by omega)
    rw [List.range_succ, List.map_append, List.map_singleton, buildP_append]
    obtain ⟨b, hb⟩ : ∃ b, buildP ((List.range n).map g) bs0 = b := ⟨_, rfl⟩
    rw [hb] at h1 h2 h3 h4 h5 ⊢
    have hl : b.ws.length = n := by rw [h1]; simp
    have hs : bstep b (g n) = { ws := b.ws ++ [⟨(g n).tc, (g n).frm, false, none⟩], toF := updI b.toF (g n).tc (some n), wants := updI b.wants (g n).frm (b.wants (g n).frm ++ [n]), reads := updI b.reads (g n).frm (some (wrap1 ((b.reads (g n).frm).getD 0 + 1))) } := by
      unfold bstep
      rw [if_neg (hne n (by omega)), hl]
    rw [hs]
    refine ⟨by rw [List.map_append]; simp [h1], fun i hi => ?_, fun c hc => ?_, fun c => ?_, fun c => ?_⟩
    · show updI b.toF (g n).tc (some n) (g i).tc = some i
      unfold updI
      by_cases h : (g i).tc = (g n).tc
      · rw [if_pos h, hinj i n (by omega) (by omega) h]
      · rw [if_neg h]
        exact h2 i (by
          have : i ≠ n := fun e => h (by rw [e])
          omega)
    · show updI b.toF (g n).tc (some n) c = none
      unfold updI
      rw [if_neg (fun e => hc n (by omega) e.symm)]
      exact h3 c (fun i hi => hc i (by omega))
    · show updI b.wants (g n).frm (b.wants (g n).frm ++ [n]) c = _
      rw [rdrs_succ]
      unfold updI
      by_cases h : c = (g n).frm
      · subst h
        rw [if_pos rfl, if_pos rfl, h4]
      · rw [if_neg h, if_neg (fun e => h e.symm), h4]
    · show (updI b.reads (g n).frm (some (wrap1 ((b.reads (g n).frm).getD 0 + 1))) c).getD 0 = _
      rw [rdrs_succ]
      unfold updI
      by_cases h : c = (g n).frm
      · subst h
        rw [if_pos rfl, if_pos rfl]
        have := rdrs_len g n (g n).frm
        rw [h5, Option.getD_some, wrap1_in _ (by omega)]
        simp
      · rw [if_neg h, if_neg (fun e => h e.symm), h5]
theorem freeP_none : ∀ (l : List Nat) (s : MS), (∀ i ∈ l, s.rd (s.wt i).tc ≠ 0) → freeP l s = s
  | [], s, _ => rfl
  | i :: l, s, h => by
    rw [freeP, if_neg (by simpa using h i (by simp))]
    exact freeP_none l s (fun j hj => h j (by simp [hj]))
theorem ringsP_done (toF : Int → Option Nat) (wants : Int → List Nat) (spare : Int) (k : Nat) : ∀ (l : List Nat) (s : MS), (∀ i ∈ l, (s.wt i).done = true) → ringsP toF wants spare k l s = some s
  | [], s, _ => rfl
  | i :: l, s, h => by
    rw [ringsP, ringP, if_pos (h i (by simp))]
    exact ringsP_done toF wants spare k l s (fun j hj => h j (by simp [hj]))
theorem badP_false (spare : Int) (hs : 0 ≤ spare) : ∀ (l : List Mv) (f : Int → Option Int), (∀ m ∈ l, 0 ≤ m.tc ∧ 0 ≤ m.frm ∧ m.tc ≠ spare ∧ m.frm ≠ spare) → (l.map Mv.tc).Nodup → (∀ m ∈ l, f m.tc = none) → badP spare l f = false
  | [], f, _, _, _ => by unfold badP; simp; omega
  | m :: l, f, h, hn, hf => by
    obtain ⟨h1, h2, h3, h4⟩ := h m (by simp)
    rw [List.map_cons, List.nodup_cons] at hn
    have e : wrap1 ((f m.tc).getD 0 + 1) = 1 := by rw [hf m (by simp)]; decide
    rw [badP, e, if_neg (by omega)]
    refine badP_false spare hs l _ (fun x hx => h x (by simp [hx])) hn.2 (fun x hx => ?_)
    have : x.tc ≠ m.tc := fun e => hn.1 (by rw [← e]; exact List.mem_map_of_mem hx)
    unfold updI
    rw [if_neg this]
    exact hf x (by simp [hx])
end Go.Proofs.Ytihnmhemhcmmoaa
