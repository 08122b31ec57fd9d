/- Of copies, in plain words: how many copies are made, and that none is made in vain. -/
import Derived.Test.YtihnmhemhcmmoaaD1
namespace Go.Proofs.Ytihnmhemhcmmoaa
open Go
set_option maxHeartbeats 1000000

def ringsLeft (g : Nat → Mv) (fr : Int → Int) (K n : Nat) (s : MS) : Nat := cnt (fun i => un s i && ringB g fr K i) n
/-- one ring is turned -/
theorem ring_step {g : Nat → Mv} {n : Nat} {toF : Int → Option Nat} (hg : Gd g n toF) (hpos : ∀ i, i < n → 0 ≤ (g i).tc) {fr : Int → Int} (hfr : Fr g n fr) {K : Nat} (hK : n ≤ K) {wants : Int → List Nat} (hwants : ∀ c, wants c = rdrs g n c) {spare : Int} (hsp : ∀ i, i < n → (g i).tc ≠ spare) (hto : toF spare = none) {k : Nat} (hk : n + 2 ≤ k) {s : MS} (h : Rg g n s) {i : Nat} (hi : i < n) (hu : un s i = true) :
    ∃ s', ringP toF wants spare k s i = some s' ∧ Rg g n s' ∧ un s' i = false ∧ (∀ j, un s' j = true → un s j = true) ∧ s'.out.length + cnt (un s') n + ringsLeft g fr K n s' = s.out.length + cnt (un s) n + ringsLeft g fr K n s ∧ ringsLeft g fr K n s' + 1 = ringsLeft g fr K n s ∧ ((∀ m ∈ s.out, m.tc ≠ m.frm) → ∀ m ∈ s'.out, m.tc ≠ m.frm) := by
  obtain ⟨L, c, ho⟩ := orbit hg h hi hu
  have hp := ho.pos
  have hL := ho.le
  have hdiff : ∀ a b, a < L → b < L → c a = c b → a = b := by
    intro a b ha hb e
    apply Classical.byContradiction
    intro hab
    by_cases hlt : a < b
    · exact ho.ne a (b - a) (by omega) (by omega) (by rw [show a + (b - a) = b by omega]; exact e.symm)
    · exact ho.ne b (a - b) (by omega) (by omega) (by rw [show b + (a - b) = a by omega]; exact e)
  have hcL : c L = i := by have := ho.per 0; rw [Nat.zero_add] at this; rw [this, ho.c0]
  have hin : ∀ a b, (g (c a)).tc = (g (c b)).tc → c a = c b := fun a b e => hg.inj _ _ (ho.lt a) (ho.lt b) e
  -- the last one reads the first one's cell
  have hlast : (g (c (L - 1))).frm = (g i).tc := by
    have := ho.nx (L - 1)
    rw [show L - 1 + 1 = L by omega, hcL] at this
    exact this.symm
  have hcl : c (L - 1) ≠ i := by
    intro e
    rw [← ho.c0] at e
    have := hdiff _ _ (by omega) (by omega) e
    omega
  let S1 : MS := { s with out := s.out ++ [⟨spare, (g i).tc⟩] }
  obtain ⟨t1, t2, t3, t4, t5⟩ := turn_spec spare (rdrs g n (g i).tc) S1 (fun j hj => by
    unfold rdrs at hj
    rw [List.mem_filter] at hj
    show j < s.ws.length
    rw [h.len]
    simpa using hj.1)
  obtain ⟨S2, hS2⟩ : ∃ S2, turnP spare (rdrs g n (g i).tc) S1 = S2 := ⟨_, rfl⟩
  rw [hS2] at t1 t2 t3 t4 t5
  have hw2 : ∀ j, j < n → S2.wt j = if j = c (L - 1) then { s.wt j with frm := spare } else s.wt j := by
    intro j hj
    rw [t5]
    have e1 : S1.wt j = s.wt j := rfl
    have e2 : un S1 j = un s j := rfl
    rw [e1, e2]
    by_cases hjc : j = c (L - 1)
    · rw [if_pos hjc, if_pos]
      rw [hjc]
      refine ⟨?_, ho.un _⟩
      unfold rdrs
      rw [List.mem_filter]
      exact ⟨by simpa using ho.lt _, by simpa using hlast⟩
    · rw [if_neg hjc, if_neg]
      rintro ⟨h1, h2⟩
      unfold rdrs at h1
      rw [List.mem_filter] at h1
      have h3 : (g j).frm = (g i).tc := by simpa using h1.2
      exact hjc (h.uniq j _ hj (ho.lt _) h2 (ho.un _) (by rw [h3, hlast]))
  have hl2 : S2.ws.length = n := by rw [t4]; exact h.len
  have hti : (S2.wt i).tc = (g i).tc := by
    rw [hw2 i hi, if_neg (Ne.symm hcl)]
    exact h.tc i hi
  let S3 : MS := { S2 with reads := updI S2.reads (g i).tc (some 0) }
  let S4 : MS := { (S3.setW i { S3.wt i with next := none }) with first := some i, last := some i }
  have hw4 : ∀ j, j < n → (S4.wt j).tc = (g j).tc ∧ (S4.wt j).done = (s.wt j).done ∧ (un s j = true → (S4.wt j).frm = if j = c (L - 1) then spare else (g j).frm) := by
    intro j hj
    have h1 : (S4.wt j).tc = (S2.wt j).tc ∧ (S4.wt j).done = (S2.wt j).done ∧ (S4.wt j).frm = (S2.wt j).frm := by
      by_cases e : j = i
      · subst e
        have : S4.wt j = { S3.wt j with next := none } := wt_set_self (s := S3) (by show j < S2.ws.length; rw [hl2]; exact hj) _
        rw [this]
        exact ⟨rfl, rfl, rfl⟩
      · have : S4.wt j = S3.wt j := wt_set_ne (s := S3) (Ne.symm e) _
        rw [this]
        exact ⟨rfl, rfl, rfl⟩
    rw [h1.1, h1.2.1, h1.2.2, hw2 j hj]
    split
    · next e => exact ⟨h.tc j hj, rfl, fun _ => rfl⟩
    · next e => exact ⟨h.tc j hj, rfl, fun hu => h.frm j hj hu⟩
  have hrun : ringP toF wants spare k s i = goP toF k S4 := by
    have hnd : ¬ (s.wt i).done = true := by
      unfold un at hu
      intro e
      rw [e] at hu
      cases hu
    unfold ringP
    rw [if_neg hnd]
    dsimp only
    rw [hwants, h.tc i hi]
    rw [show ({ s with out := s.out ++ [⟨spare, (g i).tc⟩] } : MS) = S1 from rfl, hS2, hti, put_empty S3 i (by show S2.first = none; rw [t1]; exact h.first)]
  have hcs : c 0 :: (List.range (L - 1)).map (fun j => c (j + 1)) = (List.range L).map c := by
    obtain ⟨m, hm⟩ : ∃ m, L = m + 1 := ⟨L - 1, by omega⟩
    rw [hm, Nat.add_sub_cancel, List.range_succ_eq_map, List.map_cons, List.map_map]
    rfl
  have hnth : ∀ (j a : Nat), (c 0 :: (List.range (L - 1)).map (fun j => c (j + 1)))[j]? = some a → j < L ∧ a = c j := by
    intro j a h
    rw [hcs, List.getElem?_map] at h
    by_cases hj : j < L
    · rw [List.getElem?_range hj] at h
      exact ⟨hj, by simpa using h.symm⟩
    · rw [List.getElem?_eq_none (by simpa using hj)] at h
      cases h
  have hmem : ∀ x, x ∈ (c 0 :: (List.range (L - 1)).map (fun j => c (j + 1))) ↔ ∃ j, j < L ∧ x = c j := by
    intro x
    rw [hcs, List.mem_map]
    constructor
    · rintro ⟨j, hj, e⟩
      exact ⟨j, by simpa using hj, e.symm⟩
    · rintro ⟨j, hj, e⟩
      exact ⟨j, by simpa using hj, e.symm⟩
  have hnd : (c 0 :: (List.range (L - 1)).map (fun j => c (j + 1))).Nodup := by
    rw [hcs]
    refine List.pairwise_map.2 ?_
    refine List.Pairwise.imp_of_mem ?_ List.nodup_range
    intro a b ha hb hab e
    exact hab (hdiff a b (by simpa using ha) (by simpa using hb) e)
  have hfrm4 : ∀ a, a < L → (S4.wt (c a)).frm = if a + 1 = L then spare else (g (c (a + 1))).tc := by
    intro a ha
    rw [(hw4 _ (ho.lt a)).2.2 (ho.un a)]
    by_cases e : a + 1 = L
    · rw [if_pos e, if_pos (by rw [show L - 1 = a by omega])]
    · rw [if_neg e, if_neg (fun e2 => e (by have := hdiff _ _ ha (by omega) e2; omega)), ho.nx]
  have hch : Chain toF S4 (c 0) ((List.range (L - 1)).map (fun j => c (j + 1))) := by
    refine ⟨by rw [ho.c0], ?_, hnd, fun x hx => ?_, fun x hx => ?_, fun j a b ha hb => ?_, fun a ha => ?_⟩
    · rw [ho.c0]
      have : S4.wt i = { S3.wt i with next := none } := wt_set_self (s := S3) (by show i < S2.ws.length; rw [hl2]; exact hi) _
      rw [this]
    · obtain ⟨j, hj, e⟩ := (hmem x).1 hx
      show x < (S3.setW i _).ws.length
      rw [len_set]
      show x < S2.ws.length
      rw [hl2, e]; exact ho.lt j
    · obtain ⟨j, hj, e⟩ := (hmem x).1 hx
      rw [e, (hw4 _ (ho.lt j)).2.1]
      have := ho.un j
      unfold un at this
      simpa using this
    · obtain ⟨hj, e1⟩ := hnth j a ha
      obtain ⟨hj2, e2⟩ := hnth (j + 1) b hb
      rw [e1, e2, hfrm4 j hj, if_neg (by omega)]
      refine ⟨hg.onto _ (ho.lt _), ?_⟩
      show (updI S2.reads (g i).tc (some 0) (g (c (j + 1))).tc).getD 0 = 1
      unfold updI
      rw [if_neg (fun e => by
        rw [← ho.c0] at e
        have := hdiff _ _ hj2 (by omega) (hin _ _ e)
        omega), t3]
      exact h.rd _ (ho.lt _) (ho.un _)
    · rw [List.length_map, List.length_range] at ha
      obtain ⟨hj, e1⟩ := hnth (L - 1) a ha
      rw [e1, hfrm4 _ hj, if_pos (by omega)]
      exact hto
  obtain ⟨s', g1, g2, g3, g4, g5, g6, g7, g8⟩ := chain_go toF _ _ S4 (k - (L + 1)) hch
  rw [List.length_map, List.length_range, show L - 1 + 2 + (k - (L + 1)) = k by omega] at g1
  have hin' : ∀ j, un s' j = true → ¬ ∃ a, a < L ∧ j = c a := by
    intro j hj hx
    have := g6 j ((hmem j).2 hx)
    unfold un at hj
    rw [this] at hj
    cases hj
  have hout' : ∀ j, (¬ ∃ a, a < L ∧ j = c a) → s'.wt j = S4.wt j := fun j hj => g7 j (fun e => hj ((hmem j).1 e))
  have hun' : ∀ j, j < n → un s' j = (un s j && !decide (j ∈ (List.range L).map c)) := by
    intro j hj
    by_cases hx : ∃ a, a < L ∧ j = c a
    · have h1 : un s' j = false := by
        cases hc : un s' j with
        | false => rfl
        | true => exact absurd hx (hin' j hc)
      rw [h1]
      have : j ∈ (List.range L).map c := by rw [← hcs]; exact (hmem j).2 hx
      simp [this]
    · have h1 : un s' j = un s j := by
        unfold un
        rw [hout' j hx, (hw4 j hj).2.1]
      have : j ∉ (List.range L).map c := fun e => hx ((hmem j).1 (by rw [hcs]; exact e))
      rw [h1]
      simp [this]
  have hunl : ∀ j, un s' j = true → un s j = true := by
    intro j hj
    have h1 := hin' j hj
    by_cases hjn : j < n
    · have := hun' j hjn
      rw [hj] at this
      have := this.symm
      rw [Bool.and_eq_true] at this
      exact this.1
    · unfold un MS.wt
      rw [List.getD_eq_getElem?_getD, List.getElem?_eq_none (by rw [h.len]; omega)]
      rfl
  have hmm : ∀ a, a < L → c a ∈ (List.range L).map c := fun a ha => List.mem_map.2 ⟨a, by simpa using ha, rfl⟩
  -- counts
  have hcU : cnt (un s) n = cnt (un s') n + L := by
    rw [cnt_add (p := un s) (q := un s') (r := fun j => decide (j ∈ (List.range L).map c)) n ?_ ?_, cnt_list n _ (by rw [← hcs]; exact hnd) ?_]
    · simp
    · intro x hx
      obtain ⟨a, _, e⟩ := List.mem_map.1 hx
      rw [← e]; exact ho.lt a
    · intro j hj
      rw [hun' j hj]
      by_cases hm : j ∈ (List.range L).map c
      · obtain ⟨a, _, e⟩ := List.mem_map.1 hm
        have := ho.un a
        rw [e] at this
        rw [this]
        simp [hm]
      · simp [hm]
    · intro j hj
      rw [hun' j hj]
      simp
  obtain ⟨j0, hj0, hone⟩ := ring_once hg hpos hfr ho hK
  have hcR : ringsLeft g fr K n s' + 1 = ringsLeft g fr K n s := by
    symm
    unfold ringsLeft
    refine cnt_flip (c j0) ?_ ?_ n (ho.lt _) (fun j hj hne => ?_)
    · rw [ho.un, (hone j0 hj0).2 rfl]; rfl
    · rw [hun' _ (ho.lt _)]
      have := hmm j0 hj0
      simp [this]
    · rw [hun' j hj]
      by_cases hm : j ∈ (List.range L).map c
      · obtain ⟨a, ha, e⟩ := List.mem_map.1 hm
        have hr : ringB g fr K j = false := by
          cases hc : ringB g fr K j with
          | false => rfl
          | true =>
            rw [← e] at hc
            have := (hone a (by simpa using ha)).1 hc
            rw [e] at this
            exact absurd this hne
        rw [hr]; simp
      · simp [hm]
  have hol : s'.out.length = s.out.length + 1 + L := by
    rw [g2, hcs]
    have e : S4.out = s.out ++ [⟨spare, (g i).tc⟩] := t2
    rw [e]
    simp only [List.length_append, List.length_map, List.length_range, List.length_singleton]
  refine ⟨s', hrun.trans g1, ⟨g3, ?_, fun j hj => ?_, fun j hj hjn => ?_, fun j hj hjn => ?_, fun a b ha hb h1 h2 e => h.uniq a b ha hb (hunl a h1) (hunl b h2) e, fun j hj hjn => ?_⟩, ?_, hunl, by omega, hcR, fun hall m hm => ?_⟩
  · rw [g4]
    show (S3.setW i _).ws.length = n
    rw [len_set]; exact hl2
  · rw [(g5 j).1, (hw4 j hj).1]
  · rw [(g5 j).2, (hw4 j hj).2.2 (hunl j hjn), if_neg (fun e => hin' j hjn ⟨L - 1, by omega, e⟩)]
  · unfold MS.rd
    rw [g8 _ (fun x hx e => ?_)]
    · show (updI S2.reads (g i).tc (some 0) (g j).tc).getD 0 = 1
      unfold updI
      rw [if_neg (fun e => hin' j hjn ⟨0, by omega, by rw [ho.c0]; exact hg.inj _ _ hj hi e⟩), t3]
      exact h.rd j hj (hunl j hjn)
    · obtain ⟨a, ha, e2⟩ := (hmem x).1 hx
      rw [e2, hfrm4 a ha] at e
      by_cases e3 : a + 1 = L
      · rw [if_pos e3] at e
        exact hsp j hj e.symm
      · rw [if_neg e3] at e
        exact hin' j hjn ⟨a + 1, by omega, hg.inj _ _ hj (ho.lt _) e.symm⟩
  · obtain ⟨b, hb, hub, e⟩ := h.suc j hj (hunl j hjn)
    refine ⟨b, hb, ?_, e⟩
    rw [hun' b hb, hub]
    have : b ∉ (List.range L).map c := by
      intro hm
      obtain ⟨a, ha, e2⟩ := List.mem_map.1 hm
      have ha : a < L := by simpa using ha
      have hpre : ∃ d, d < L ∧ (g (c d)).frm = (g (c a)).tc := by
        by_cases h0 : a = 0
        · exact ⟨L - 1, by omega, by rw [hlast, h0, ho.c0]⟩
        · refine ⟨a - 1, by omega, ?_⟩
          rw [← ho.nx, show a - 1 + 1 = a by omega]
      obtain ⟨d, hd, e3⟩ := hpre
      rw [e2, e] at e3
      exact hin' j hjn ⟨d, hd, h.uniq j _ hj (ho.lt d) (hunl j hjn) (ho.un d) e3.symm⟩
    simp [this]
  · rw [hun' i hi]
    have := hmm 0 (by omega)
    rw [ho.c0] at this
    simp [this]
  · rw [g2, hcs, List.mem_append] at hm
    rcases hm with hm | hm
    · have hm : m ∈ S2.out := hm
      rw [t2] at hm
      have hm : m ∈ s.out ++ [⟨spare, (g i).tc⟩] := hm
      rw [List.mem_append, List.mem_singleton] at hm
      rcases hm with hm | hm
      · exact hall m hm
      · rw [hm]; exact fun e => hsp i hi e.symm
    · obtain ⟨x, hx, e⟩ := List.mem_map.1 hm
      obtain ⟨a, ha, e2⟩ := List.mem_map.1 hx
      have ha : a < L := by simpa using ha
      rw [← e, ← e2]
      show (S4.wt (c a)).tc ≠ (S4.wt (c a)).frm
      rw [(hw4 _ (ho.lt a)).1, hfrm4 a ha]
      split
      · exact hsp _ (ho.lt a)
      · intro e3
        have := hin _ _ e3
        exact ho.ne a 1 (by omega) (by omega) this.symm
/-- all rings are turned -/
theorem rings_all {g : Nat → Mv} {n : Nat} {toF : Int → Option Nat} (hg : Gd g n toF) (hpos : ∀ i, i < n → 0 ≤ (g i).tc) {fr : Int → Int} (hfr : Fr g n fr) {K : Nat} (hK : n ≤ K) {wants : Int → List Nat} (hwants : ∀ c, wants c = rdrs g n c) {spare : Int} (hsp : ∀ i, i < n → (g i).tc ≠ spare) (hto : toF spare = none) {k : Nat} (hk : n + 2 ≤ k) : ∀ (l : List Nat) (s : MS), (∀ i ∈ l, i < n) → Rg g n s →
    ∃ s', ringsP toF wants spare k l s = some s' ∧ (∀ i ∈ l, un s' i = false) ∧ (∀ j, un s' j = true → un s j = true) ∧ s'.out.length + cnt (un s') n + ringsLeft g fr K n s' = s.out.length + cnt (un s) n + ringsLeft g fr K n s ∧ ((∀ m ∈ s.out, m.tc ≠ m.frm) → ∀ m ∈ s'.out, m.tc ≠ m.frm) ∧ (s'.out = s.out ∨ 0 < ringsLeft g fr K n s)
  | [], s, _, _ => ⟨s, rfl, fun i hi => by simp at hi, fun _ h => h, rfl, fun h => h, .inl rfl⟩
  | i :: l, s, hl, h => by
    have hi := hl i (by simp)
    cases hu : un s i with
    | true =>
      obtain ⟨s1, a1, a2, a3, a4, a5, a6, a7⟩ := ring_step hg hpos hfr hK hwants hsp hto hk h hi hu
      obtain ⟨s', b1, b2, b3, b4, b5, b6⟩ := rings_all hg hpos hfr hK hwants hsp hto hk l s1 (fun j hj => hl j (by simp [hj])) a2
      refine ⟨s', ?_, fun j hj => ?_, fun j hj => a4 j (b3 j hj), by omega, fun h => b5 (a7 h), .inr (by omega)⟩
      · rw [ringsP, a1]; exact b1
      · rcases List.mem_cons.1 hj with e | e
        · rw [e]
          cases hc : un s' i with
          | false => rfl
          | true => have := b3 i hc; rw [a3] at this; cases this
        · exact b2 j e
    | false =>
      obtain ⟨s', b1, b2, b3, b4, b5, b6⟩ := rings_all hg hpos hfr hK hwants hsp hto hk l s (fun j hj => hl j (by simp [hj])) h
      have hd : (s.wt i).done = true := by unfold un at hu; simpa using hu
      refine ⟨s', ?_, fun j hj => ?_, b3, b4, b5, b6⟩
      · rw [ringsP, ringP, if_pos hd]; exact b1
      · rcases List.mem_cons.1 hj with e | e
        · rw [e]
          cases hc : un s' i with
          | false => rfl
          | true => have := b3 i hc; rw [hu] at this; cases this
        · exact b2 j e
theorem cnt_true : ∀ n, cnt (fun _ => true) n = n
  | 0 => rfl
  | n + 1 => by rw [cnt, cnt_true n]; rfl
/-- what is made of copies that all change something -/
theorem sorted_num (g : Nat → Mv) (n : Nat) (hn : n ≤ 1000000) (spare : Int) (hpos : ∀ i, i < n → 0 ≤ (g i).tc ∧ (g i).tc ≠ spare ∧ (g i).frm ≠ spare) (hne : ∀ i, i < n → (g i).tc ≠ (g i).frm) (hinj : ∀ i j, i < n → j < n → (g i).tc = (g j).tc → i = j) (fr : Int → Int) (hfr : Fr g n fr) (K : Nat) (hK : n ≤ K) (k : Nat) (hk : n + 2 ≤ k) :
    ∃ l, sortedP ((List.range n).map g) spare k = some l ∧ l.length = n + cnt (ringB g fr K) n ∧ (∀ m ∈ l, m.tc ≠ m.frm) ∧ (cnt (ringB g fr K) n = 0 → ∀ m ∈ l, m.tc ≠ spare ∧ m.frm ≠ spare) := by
  obtain ⟨b1, b2, b3, b4, b5⟩ := build_spec g n hn hne hinj n (Nat.le_refl _)
  obtain ⟨B, hB⟩ : ∃ B, buildP ((List.range n).map g) bs0 = B := ⟨_, rfl⟩
  rw [hB] at b1 b2 b3 b4 b5
  have hg : Gd g n B.toF := by
    refine ⟨hne, hinj, b2, fun c j hc => ?_⟩
    by_cases hex : ∃ i, i < n ∧ (g i).tc = c
    · obtain ⟨i, hi, e⟩ := hex
      have := b2 i hi
      rw [e, hc] at this
      obtain rfl := Option.some.inj this
      exact ⟨hi, e⟩
    · have := b3 c (fun i hi e => hex ⟨i, hi, e⟩)
      rw [hc] at this
      cases this
  have hto : B.toF spare = none := b3 spare (fun i hi => (hpos i hi).2.1)
  unfold sortedP
  rw [hB]
  dsimp only
  have hlen : B.ws.length = n := by rw [b1]; simp
  rw [hlen]
  obtain ⟨S0, hS0⟩ : ∃ S0 : MS, S0 = ⟨B.ws, none, none, B.reads, []⟩ := ⟨_, rfl⟩
  rw [← hS0]
  have hwt : ∀ i, i < n → S0.wt i = ⟨(g i).tc, (g i).frm, false, none⟩ := by
    intro i hi
    rw [hS0]
    unfold MS.wt
    rw [b1]
    simp [List.getD_eq_getElem?_getD, hi]
  have hu0 : ∀ i, i < n → un S0 i = true := fun i hi => by unfold un; rw [hwt i hi]; rfl
  -- what lies on a way back to itself
  let P : Nat → Prop := fun j => j < n ∧ ∃ i m q, i < n ∧ itF fr (g i).frm m = (g i).tc ∧ (∀ a, a ≤ m → 0 ≤ itF fr (g i).frm a) ∧ q ≤ m ∧ itF fr (g i).frm q = (g j).tc
  have hP : ∀ i, P i → ∃ j, P j ∧ (g j).frm = (g i).tc := by
    rintro j ⟨hj, i, m, q, hi, h1, h2, h3, h4⟩
    cases q with
    | zero => exact ⟨i, ⟨hi, i, m, m, hi, h1, h2, Nat.le_refl _, h1⟩, h4⟩
    | succ q =>
      rw [itF_succ] at h4
      have h5 := (hpos j hj).1
      obtain ⟨a, ha, e1, e2⟩ := hfr.of (itF fr (g i).frm q) (by omega)
      exact ⟨a, ⟨ha, i, m, q, hi, h1, h2, by omega, e1.symm⟩, by rw [← e2, h4]⟩
  have hinv : Inv g n P 0 S0 [] := by
    refine ⟨⟨by rw [hS0]; rfl, fun j a ha => by simp at ha, fun h => absurd rfl h, by simp⟩, by rw [hS0]; exact hlen, fun i hi => by rw [hwt i hi]; exact ⟨rfl, rfl⟩, fun i hi => by simp at hi, fun c => ?_, fun i hi _ => by simp, fun i hi => ⟨hi.1, hu0 i hi.1⟩, fun x hx => by rw [hS0] at hx; simp at hx, ?_⟩
    · have h1 : S0.rd c = (rdrs g n c).length := by rw [hS0]; exact b5 c
      rw [h1, cnt_rdrs]
      congr 1
      exact cnt_congr n (fun i hi => by rw [hu0 i hi]; simp)
    · have : cnt (un S0) n = n := by
        have h1 := cnt_add (p := fun _ => true) (q := un S0) (r := fun _ => false) n (fun i hi => by rw [hu0 i hi]; rfl) (fun i _ => by simp)
        have h2 := cnt_true n
        have h3 : cnt (fun _ => false) n = 0 := cnt_none n (fun _ _ => rfl)
        omega
      rw [this, hS0]; simp
  obtain ⟨q1, hf⟩ := free_all n 0 S0 [] (by omega) hu0 hinv
  rw [List.range_eq_range']
  obtain ⟨s1, g1, g2⟩ := go_all hn hg hP k _ q1 hf (by have := cnt_le (un (freeP (List.range' 0 n) S0)) n; omega)
  rw [g1]
  dsimp only
  have hrg := rings_left hg g2
  have hout1 : ∀ m ∈ s1.out, m.tc ≠ m.frm := fun m hm => by
    obtain ⟨i, hi, e⟩ := g2.out m hm
    rw [e]; exact hne i hi
  obtain ⟨s', r1, r2, r3, r4, r5, r6⟩ := rings_all hg (fun i hi => (hpos i hi).1) hfr hK b4 (fun i hi => (hpos i hi).2.1) hto hk (List.range' 0 n) s1 (fun i hi => by rw [← List.range_eq_range'] at hi; simpa using hi) hrg
  rw [r1]
  have hR : ringsLeft g fr K n s1 = cnt (ringB g fr K) n := by
    refine cnt_congr n (fun i hi => ?_)
    cases hc : ringB g fr K i with
    | false => simp
    | true =>
      have h1 : (lapP fr (g i).tc K (g i).frm true).1 = (g i).tc := by
        unfold ringB at hc
        simp only [Bool.and_eq_true, decide_eq_true_iff] at hc
        exact hc.1
      obtain ⟨m, h2, h3⟩ := lap_back fr (g i).tc (hpos i hi).1 K _ _ h1
      have := (g2.kept i ⟨hi, i, m, m, hi, h2, h3, Nat.le_refl _, h2⟩).2
      rw [this]; rfl
  have hU' : cnt (un s') n = 0 := cnt_none n (fun i hi => r2 i (by rw [← List.range_eq_range']; simpa using hi))
  have hR' : ringsLeft g fr K n s' = 0 := cnt_none n (fun i hi => by rw [r2 i (by rw [← List.range_eq_range']; simpa using hi)]; rfl)
  refine ⟨s'.out, rfl, ?_, r5 hout1, fun h0 m hm => ?_⟩
  · have := g2.num
    omega
  · rcases r6 with e | e
    · rw [e] at hm
      obtain ⟨i, hi, e2⟩ := g2.out m hm
      rw [e2]
      exact ⟨(hpos i hi).2.1, (hpos i hi).2.2⟩
    · omega
end Go.Proofs.Ytihnmhemhcmmoaa
