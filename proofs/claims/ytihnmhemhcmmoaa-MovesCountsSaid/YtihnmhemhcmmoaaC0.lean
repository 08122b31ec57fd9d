/- Of copies, in plain words: a chain of them is done from its head to its end; what is laid out for each list. -/
import Derived.Test.YtihnmhemhcmmoaaA8
namespace Go.Proofs.Ytihnmhemhcmmoaa
set_option maxHeartbeats 1000000

theorem wt_set_self {s : MS} {i : Nat} (hi : i < s.ws.length) (x : Wt) : (s.setW i x).wt i = x := MS.wt_setW hi x
theorem wt_set_ne {s : MS} {i j : Nat} (h : i ≠ j) (x : Wt) : (s.setW i x).wt j = s.wt j := by
  unfold MS.wt MS.setW
  simp [List.getD_eq_getElem?_getD, h]
theorem len_set (s : MS) (i : Nat) (x : Wt) : (s.setW i x).ws.length = s.ws.length := by simp [MS.setW]
theorem wrap1_zero : wrap1 (1 - 1) = 0 := by decide
/-- a copy that none waits behind is put into an empty row -/
theorem put_empty (s : MS) (i : Nat) (h : s.first = none) : putP s i = { (s.setW i { s.wt i with next := none }) with first := some i, last := some i } := by
  unfold putP
  rw [h]
structure Chain (toF : Int → Option Nat) (s : MS) (c : Nat) (cs : List Nat) : Prop where
  first : s.first = some c
  next : (s.wt c).next = none
  nd : (c :: cs).Nodup
  lt : ∀ i ∈ c :: cs, i < s.ws.length
  todo : ∀ i ∈ c :: cs, (s.wt i).done = false
  succ : ∀ (j : Nat) (a b : Nat), (c :: cs)[j]? = some a → (c :: cs)[j + 1]? = some b → toF (s.wt a).frm = some b ∧ s.rd (s.wt a).frm = 1
  fin : ∀ a, (c :: cs)[cs.length]? = some a → toF (s.wt a).frm = none
theorem chain_go (toF : Int → Option Nat) : ∀ (cs : List Nat) (c : Nat) (s : MS) (k : Nat), Chain toF s c cs → ∃ s', goP toF (cs.length + 2 + k) s = some s' ∧ s'.out = s.out ++ (c :: cs).map (fun i => ⟨(s.wt i).tc, (s.wt i).frm⟩) ∧ s'.first = none ∧ s'.ws.length = s.ws.length ∧ (∀ i, (s'.wt i).tc = (s.wt i).tc ∧ (s'.wt i).frm = (s.wt i).frm) ∧ (∀ i ∈ c :: cs, (s'.wt i).done = true) ∧ (∀ i, i ∉ c :: cs → s'.wt i = s.wt i) ∧ (∀ x, (∀ i ∈ c :: cs, (s.wt i).frm ≠ x) → s'.reads x = s.reads x)
  | [], c, s, k, h => by
    have hlt := h.lt c (by simp)
    have hfin : toF (s.wt c).frm = none := h.fin c rfl
    have hx : ({ s with first := (s.wt c).next } : MS).wt c = s.wt c := rfl
    let s1 : MS := { ({ s with first := (s.wt c).next } : MS).setW c { s.wt c with done := true } with out := s.out ++ [⟨(s.wt c).tc, (s.wt c).frm⟩] }
    have hd : doesP toF { s with first := (s.wt c).next } c = { s1 with reads := updI s1.reads (s.wt c).frm (some (wrap1 (s1.rd (s.wt c).frm - 1))) } := by
      unfold doesP lessP
      simp only [hx, hfin]
      rfl
    have hw : ∀ i, ((doesP toF { s with first := (s.wt c).next } c).wt i) = if i = c then { s.wt c with done := true } else s.wt i := by
      intro i
      rw [hd]
      by_cases hi : i = c
      · subst hi
        rw [if_pos rfl]
        exact wt_set_self (s := { s with first := (s.wt i).next }) hlt _
      · rw [if_neg hi]
        exact wt_set_ne (s := { s with first := (s.wt c).next }) (Ne.symm hi) _
    have hfst : (doesP toF { s with first := (s.wt c).next } c).first = none := by rw [hd]; exact h.next
    refine ⟨doesP toF { s with first := (s.wt c).next } c, ?_, ?_, ?_, ?_, ?_, ?_, ?_, ?_⟩
    · rw [show ([] : List Nat).length + 2 + k = (k + 1) + 1 by simp; omega, goP, h.first]
      dsimp only
      rw [goP, hfst]
    · rw [hd]; rfl
    · rw [hd]; exact h.next
    · rw [hd]; exact len_set _ _ _
    · intro i
      rw [hw]
      split
      · next e => subst e; exact ⟨rfl, rfl⟩
      · exact ⟨rfl, rfl⟩
    · intro i hi
      simp at hi
      subst hi
      rw [hw, if_pos rfl]
    · intro i hi
      simp at hi
      rw [hw, if_neg hi]
    · intro x hx2
      rw [hd]
      show updI s.reads (s.wt c).frm _ x = s.reads x
      unfold updI
      rw [if_neg (fun e => hx2 c (by simp) e.symm)]
  | b :: cs, c, s, k, h => by
    have hlt := h.lt c (by simp)
    obtain ⟨hto, hrd⟩ := h.succ 0 c b rfl rfl
    have hcb : c ≠ b := fun e => by have := h.nd; rw [e] at this; simp at this
    have hbl := h.lt b (by simp)
    have hx : ({ s with first := (s.wt c).next } : MS).wt c = s.wt c := rfl
    let s1 : MS := { ({ s with first := (s.wt c).next } : MS).setW c { s.wt c with done := true } with out := s.out ++ [⟨(s.wt c).tc, (s.wt c).frm⟩] }
    let s2 : MS := { s1 with reads := updI s1.reads (s.wt c).frm (some 0) }
    have hb2 : s2.wt b = s.wt b := wt_set_ne (s := { s with first := (s.wt c).next }) hcb _
    have hd : doesP toF { s with first := (s.wt c).next } c = { (s2.setW b { s.wt b with next := none }) with first := some b, last := some b } := by
      have h1 : doesP toF { s with first := (s.wt c).next } c = lessP toF s1 (s.wt c).frm := rfl
      rw [h1]
      have h2 : wrap1 (s1.rd (s.wt c).frm - 1) = 0 := by
        have : s1.rd (s.wt c).frm = s.rd (s.wt c).frm := rfl
        rw [this, hrd]; exact wrap1_zero
      unfold lessP
      simp only [hto, h2]
      have h3 : (s2.wt b).done = false := by rw [hb2]; exact h.todo b (by simp)
      rw [if_pos (by show (!(s2.wt b).done && ((0 : Int) == 0)) = true; rw [h3]; rfl)]
      show putP s2 b = _
      rw [put_empty s2 b h.next, hb2]
    obtain ⟨s3, hs3⟩ : ∃ s3, doesP toF { s with first := (s.wt c).next } c = s3 := ⟨_, rfl⟩
    have hw : ∀ i, s3.wt i = if i = c then { s.wt c with done := true } else if i = b then { s.wt b with next := none } else s.wt i := by
      intro i
      rw [← hs3, hd]
      have hb2l : b < s2.ws.length := by show b < (({ s with first := (s.wt c).next } : MS).setW c _).ws.length; rw [len_set]; exact hbl
      by_cases hi : i = b
      · subst hi
        rw [if_neg (Ne.symm hcb), if_pos rfl]
        exact wt_set_self (s := s2) hb2l _
      · rw [show ({ (s2.setW b { s.wt b with next := none }) with first := some b, last := some b } : MS).wt i = (s2.setW b { s.wt b with next := none }).wt i from rfl, wt_set_ne (Ne.symm hi)]
        by_cases hic : i = c
        · subst hic
          rw [if_pos rfl]
          exact wt_set_self (s := { s with first := (s.wt i).next }) hlt _
        · rw [if_neg hic, if_neg hi]
          exact wt_set_ne (s := { s with first := (s.wt c).next }) (Ne.symm hic) _
    have hl3 : s3.ws.length = s.ws.length := by
      rw [← hs3, doesP_len]
    have htf : ∀ i, (s3.wt i).tc = (s.wt i).tc ∧ (s3.wt i).frm = (s.wt i).frm := by
      intro i
      rw [hw]
      split
      · next e => subst e; exact ⟨rfl, rfl⟩
      · split
        · next e => subst e; exact ⟨rfl, rfl⟩
        · exact ⟨rfl, rfl⟩
    have hr3 : ∀ x, x ≠ (s.wt c).frm → s3.reads x = s.reads x := by
      intro x hxc
      rw [← hs3, hd]
      show updI s.reads (s.wt c).frm (some 0) x = s.reads x
      unfold updI
      rw [if_neg hxc]
    have hnc : c ∉ b :: cs := (List.nodup_cons.1 h.nd).1
    have hch : Chain toF s3 b cs := by
      refine ⟨by rw [← hs3, hd], by rw [hw, if_neg (Ne.symm hcb), if_pos rfl], (List.nodup_cons.1 h.nd).2, fun i hi => by rw [hl3]; exact h.lt i (by simp at hi ⊢; exact .inr hi), fun i hi => ?_, fun j a d ha hd2 => ?_, fun a ha => ?_⟩
      · have hic : i ≠ c := fun e => hnc (by rw [← e]; exact hi)
        rw [hw, if_neg hic]
        split
        · next e => subst e; exact h.todo i (by simp)
        · exact h.todo i (List.mem_cons_of_mem _ hi)
      · obtain ⟨h1, h2⟩ := h.succ (j + 1) a d ha hd2
        rw [(htf a).2]
        refine ⟨h1, ?_⟩
        unfold MS.rd at h2 ⊢
        rw [hr3 _ (fun e => ?_)]
        · exact h2
        · rw [e, hto] at h1
          obtain rfl := Option.some.inj h1
          have hnd2 := (List.nodup_cons.1 h.nd).2
          have h3 : j + 1 < (b :: cs).length := (List.getElem?_eq_some_iff.1 hd2).1
          have h4 : (b :: cs)[j + 1] = b := (List.getElem?_eq_some_iff.1 hd2).2
          have := nd_inj hnd2 h3 (show 0 < (b :: cs).length by simp) (by rw [h4]; rfl)
          omega
      · rw [(htf a).2]
        exact h.fin a (by rw [List.length_cons, List.getElem?_cons_succ]; exact ha)
    obtain ⟨s', g1, g2, g3, g4, g5, g6, g7, g8⟩ := chain_go toF cs b s3 k hch
    refine ⟨s', ?_, ?_, g3, by rw [g4, hl3], fun i => ⟨(g5 i).1.trans (htf i).1, (g5 i).2.trans (htf i).2⟩, ?_, ?_, ?_⟩
    · rw [show (b :: cs).length + 2 + k = (cs.length + 2 + k) + 1 by simp; omega, goP, h.first]
      dsimp only
      rw [hs3]
      exact g1
    · rw [g2]
      have ho : s3.out = s.out ++ [⟨(s.wt c).tc, (s.wt c).frm⟩] := by rw [← hs3, hd]; rfl
      rw [ho, List.map_cons (a := c), List.append_assoc]
      congr 1
      show [_] ++ _ = _ :: _
      rw [List.singleton_append]
      congr 1
      apply List.map_congr_left
      intro i _
      rw [(htf i).1, (htf i).2]
    · intro i hi
      by_cases hic : i = c
      · subst hic
        rw [g7 i hnc, hw, if_pos rfl]
      · exact g6 i (by rcases List.mem_cons.1 hi with h | h; exact absurd h hic; exact h)
    · intro i hi
      have h1 : i ≠ c := fun e => hi (by rw [e]; simp)
      have h2 : i ∉ b :: cs := fun e => hi (List.mem_cons_of_mem _ e)
      rw [g7 i h2, hw, if_neg h1, if_neg (fun e => h2 (by rw [e]; simp))]
    · intro x hx2
      rw [g8 x (fun i hi => by rw [(htf i).2]; exact hx2 i (List.mem_cons_of_mem _ hi)), hr3 x (fun e => hx2 c (by simp) e.symm)]
end Go.Proofs.Ytihnmhemhcmmoaa
