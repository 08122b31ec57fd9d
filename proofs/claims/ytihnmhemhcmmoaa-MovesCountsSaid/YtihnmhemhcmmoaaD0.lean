/- Of copies, in plain words: what stands in a row of those that nothing reads any more, and how it is worked off. -/
import Derived.Test.YtihnmhemhcmmoaaC1
namespace Go.Proofs.Ytihnmhemhcmmoaa
open Go
set_option maxHeartbeats 1000000

/-- how many numbers below n are such -/
def cnt (p : Nat → Bool) : Nat → Nat
  | 0 => 0
  | n + 1 => cnt p n + if p n = true then 1 else 0
theorem cnt_congr {p q : Nat → Bool} : ∀ n, (∀ i, i < n → p i = q i) → cnt p n = cnt q n
  | 0, _ => rfl
  | n + 1, h => by rw [cnt, cnt, cnt_congr n (fun i hi => h i (by omega)), h n (by omega)]
theorem cnt_flip {p q : Nat → Bool} (i0 : Nat) (hp : p i0 = true) (hq : q i0 = false) : ∀ n, i0 < n → (∀ i, i < n → i ≠ i0 → p i = q i) → cnt p n = cnt q n + 1
  | 0, h, _ => by omega
  | n + 1, h, he => by
    rw [cnt, cnt]
    by_cases hn : n = i0
    · subst hn
      rw [cnt_congr n (fun i hi => he i (by omega) (by omega)), hp, hq]; simp
    · rw [cnt_flip i0 hp hq n (by omega) (fun i hi h2 => he i (by omega) h2), he n (by omega) hn]; omega
theorem cnt_none {p : Nat → Bool} : ∀ n, (∀ i, i < n → p i = false) → cnt p n = 0
  | 0, _ => rfl
  | n + 1, h => by rw [cnt, cnt_none n (fun i hi => h i (by omega)), h n (by omega)]; rfl
theorem cnt_pos {p : Nat → Bool} (i : Nat) (hp : p i = true) : ∀ n, i < n → 0 < cnt p n
  | 0, h => by omega
  | n + 1, h => by
    rw [cnt]
    by_cases hn : n = i
    · subst hn; rw [hp]; simp
    · have := cnt_pos i hp n (by omega); omega
theorem cnt_ex {p : Nat → Bool} : ∀ n, 0 < cnt p n → ∃ i, i < n ∧ p i = true
  | 0, h => by simp [cnt] at h
  | n + 1, h => by
    rw [cnt] at h
    by_cases hp : p n = true
    · exact ⟨n, by omega, hp⟩
    · rw [if_neg hp] at h
      obtain ⟨i, hi, h2⟩ := cnt_ex n (by omega)
      exact ⟨i, by omega, h2⟩
theorem cnt_le (p : Nat → Bool) : ∀ n, cnt p n ≤ n
  | 0 => by simp [cnt]
  | n + 1 => by rw [cnt]; have := cnt_le p n; split <;> omega
theorem cnt_one {p : Nat → Bool} (i0 : Nat) (n : Nat) (hi : i0 < n) (h : ∀ i, i < n → (p i = true ↔ i = i0)) : cnt p n = 1 := by
  rw [cnt_flip (q := fun _ => false) i0 ((h i0 hi).2 rfl) rfl n hi (fun i hin hne => by
    cases hp : p i with
    | false => rfl
    | true => exact absurd ((h i hin).1 hp) hne), cnt_none n (fun _ _ => rfl)]
theorem cnt_add {p q r : Nat → Bool} : ∀ n, (∀ i, i < n → p i = (q i || r i)) → (∀ i, i < n → ¬ (q i = true ∧ r i = true)) → cnt p n = cnt q n + cnt r n
  | 0, _, _ => rfl
  | n + 1, h, h2 => by
    rw [cnt, cnt, cnt, cnt_add n (fun i hi => h i (by omega)) (fun i hi => h2 i (by omega)), h n (by omega)]
    have := h2 n (by omega)
    cases hq : q n <;> cases hr : r n <;> simp_all <;> omega
theorem cnt_list (n : Nat) : ∀ l : List Nat, l.Nodup → (∀ i ∈ l, i < n) → cnt (fun i => decide (i ∈ l)) n = l.length
  | [], _, _ => cnt_none n (fun i _ => by simp)
  | a :: l, hn, h => by
    rw [List.nodup_cons] at hn
    rw [cnt_flip (q := fun i => decide (i ∈ l)) a (by simp) (by simpa using hn.1) n (h a (by simp)) (fun i _ hne => by simp [hne]), cnt_list n l hn.2 (fun i hi => h i (by simp [hi]))]
    simp
theorem cnt_rdrs (g : Nat → Mv) (c : Int) : ∀ n, (rdrs g n c).length = cnt (fun i => decide ((g i).frm = c)) n
  | 0 => rfl
  | n + 1 => by
    rw [rdrs_succ, cnt, ← cnt_rdrs g c n]
    by_cases h : (g n).frm = c <;> simp [h]

/-- the row is q -/
structure QQ (s : MS) (q : List Nat) : Prop where
  first : s.first = q[0]?
  nxt : ∀ (j a : Nat), q[j]? = some a → (s.wt a).next = q[j + 1]?
  last : q ≠ [] → s.last = q[q.length - 1]?
  nd : q.Nodup
theorem put_q {s : MS} {q : List Nat} (h : QQ s q) (i : Nat) (hi : i < s.ws.length) (hq : ∀ j ∈ q, j < s.ws.length) (hn : i ∉ q) :
    QQ (putP s i) (q ++ [i]) ∧ (putP s i).out = s.out ∧ (putP s i).reads = s.reads ∧ (putP s i).ws.length = s.ws.length ∧ ∀ j, ((putP s i).wt j).tc = (s.wt j).tc ∧ ((putP s i).wt j).frm = (s.wt j).frm ∧ ((putP s i).wt j).done = (s.wt j).done := by
  cases q with
  | nil =>
    have hf : s.first = none := h.first
    rw [put_empty s i hf]
    have hw : ∀ j, (s.setW i { s.wt i with next := none }).wt j = if j = i then { s.wt i with next := none } else s.wt j := by
      intro j
      by_cases hj : j = i
      · subst hj; rw [if_pos rfl, wt_set_self hi]
      · rw [if_neg hj, wt_set_ne (Ne.symm hj)]
    refine ⟨⟨rfl, fun j a ha => ?_, fun _ => rfl, by simp⟩, rfl, rfl, len_set _ _ _, fun j => ?_⟩
    · have hj : j < 1 := (List.getElem?_eq_some_iff.1 ha).1
      obtain rfl : j = 0 := by omega
      have : i = a := by simpa using ha
      subst this
      show ((s.setW i { s.wt i with next := none }).wt i).next = none
      rw [hw, if_pos rfl]
    · show ((s.setW i { s.wt i with next := none }).wt j).tc = _ ∧ ((s.setW i { s.wt i with next := none }).wt j).frm = _ ∧ ((s.setW i { s.wt i with next := none }).wt j).done = _
      rw [hw]
      split
      · next e => subst e; exact ⟨rfl, rfl, rfl⟩
      · exact ⟨rfl, rfl, rfl⟩
  | cons f q =>
    have hf : s.first = some f := h.first
    have hll : q.length < (f :: q).length := by simp
    have hl : s.last = some (f :: q)[q.length] := by
      rw [h.last (by simp)]
      simp only [List.length_cons, Nat.add_sub_cancel]
      exact List.getElem?_eq_getElem hll
    obtain ⟨l, hle⟩ : ∃ l, (f :: q)[q.length] = l := ⟨_, rfl⟩
    rw [hle] at hl
    have hlm : l ∈ f :: q := by rw [← hle]; exact List.getElem_mem _
    have hli : l ≠ i := fun e => hn (by rw [← e]; exact hlm)
    have hp : putP s i = { (s.setW i { s.wt i with next := none }).setW l { (s.setW i { s.wt i with next := none }).wt l with next := some i } with last := some i } := by
      unfold putP
      rw [hf, hl]
    have hw : ∀ j, (putP s i).wt j = if j = l then { s.wt l with next := some i } else if j = i then { s.wt i with next := none } else s.wt j := by
      intro j
      rw [hp]
      show ((s.setW i { s.wt i with next := none }).setW l { (s.setW i { s.wt i with next := none }).wt l with next := some i }).wt j = _
      by_cases hj : j = l
      · subst hj
        rw [if_pos rfl, wt_set_self (by rw [len_set]; exact hq _ hlm), wt_set_ne (Ne.symm hli)]
      · rw [if_neg hj, wt_set_ne (Ne.symm hj)]
        by_cases hj2 : j = i
        · subst hj2; rw [if_pos rfl, wt_set_self hi]
        · rw [if_neg hj2, wt_set_ne (Ne.symm hj2)]
    refine ⟨⟨?_, fun j a ha => ?_, fun _ => ?_, ?_⟩, ?_, ?_, ?_, fun j => ?_⟩
    · rw [hp]; exact hf
    · rw [hw]
      have hjl : j < ((f :: q) ++ [i]).length := (List.getElem?_eq_some_iff.1 ha).1
      rw [List.length_append] at hjl
      by_cases h1 : j < (f :: q).length
      · rw [List.getElem?_append_left h1] at ha
        have ham : a ∈ f :: q := List.mem_of_getElem? ha
        have hai : a ≠ i := fun e => hn (by rw [← e]; exact ham)
        by_cases h2 : j = q.length
        · subst h2
          rw [List.getElem?_eq_getElem hll, hle] at ha
          obtain rfl := Option.some.inj ha
          rw [if_pos rfl, List.getElem?_append_right (by simp)]
          simp
        · have hal : a ≠ l := fun e => by
            rw [List.getElem?_eq_getElem h1] at ha
            have := nd_inj h.nd h1 hll (by rw [Option.some.inj ha, e, hle])
            exact h2 this
          rw [if_neg hal, if_neg hai, h.nxt j a ha, List.getElem?_append_left (by simp at h1 ⊢; omega)]
      · have hj : j = (f :: q).length := by simp at hjl h1 ⊢; omega
        subst hj
        rw [List.getElem?_append_right (by simp)] at ha
        have : i = a := by simpa using ha
        subst this
        rw [if_neg (Ne.symm hli), if_pos rfl, List.getElem?_eq_none (by simp)]
    · rw [hp]
      rw [List.getElem?_append_right (by simp)]
      simp
    · rw [List.nodup_append]
      refine ⟨h.nd, by simp, fun a ha b hb => ?_⟩
      simp at hb
      rw [hb]
      exact fun e => hn (by rw [← e]; exact ha)
    · rw [hp]; rfl
    · rw [hp]; rfl
    · rw [hp]
      show ((s.setW i { s.wt i with next := none }).setW l { (s.setW i { s.wt i with next := none }).wt l with next := some i }).ws.length = _
      rw [len_set, len_set]
    · rw [hw]
      split
      · next e => subst e; exact ⟨rfl, rfl, rfl⟩
      · split
        · next e => subst e; exact ⟨rfl, rfl, rfl⟩
        · exact ⟨rfl, rfl, rfl⟩
/-- the copies g that are still to be done -/
def un (s : MS) (i : Nat) : Bool := !(s.wt i).done
structure Inv (g : Nat → Mv) (n : Nat) (P : Nat → Prop) (m : Nat) (s : MS) (q : List Nat) : Prop where
  qq : QQ s q
  len : s.ws.length = n
  tc : ∀ i, i < n → (s.wt i).tc = (g i).tc ∧ (s.wt i).frm = (g i).frm
  lt : ∀ i ∈ q, i < n ∧ un s i = true
  rds : ∀ c, s.rd c = cnt (fun i => un s i && decide ((g i).frm = c)) n
  zero : ∀ i, i < n → un s i = true → (i ∈ q ↔ i < m ∧ s.rd (g i).tc = 0)
  kept : ∀ i, P i → i < n ∧ un s i = true
  out : ∀ x ∈ s.out, ∃ i, i < n ∧ x = g i
  num : s.out.length + cnt (un s) n = n
/-- what is known of g and of where a cell is written -/
structure Gd (g : Nat → Mv) (n : Nat) (toF : Int → Option Nat) : Prop where
  ne : ∀ i, i < n → (g i).tc ≠ (g i).frm
  inj : ∀ i j, i < n → j < n → (g i).tc = (g j).tc → i = j
  onto : ∀ i, i < n → toF (g i).tc = some i
  of : ∀ c j, toF c = some j → j < n ∧ (g j).tc = c
theorem does_step {g : Nat → Mv} {n : Nat} {toF : Int → Option Nat} (hn : n ≤ 1000000) (hg : Gd g n toF) {P : Nat → Prop} (hP : ∀ i, P i → ∃ j, P j ∧ (g j).frm = (g i).tc) {s : MS} {i : Nat} {q : List Nat} (h : Inv g n P n s (i :: q)) :
    ∃ q', Inv g n P n (doesP toF { s with first := (s.wt i).next } i) q' ∧ cnt (un (doesP toF { s with first := (s.wt i).next } i)) n + 1 = cnt (un s) n := by
  obtain ⟨hin, hui⟩ := h.lt i (by simp)
  have hnd := List.nodup_cons.1 h.qq.nd
  have hni : (s.wt i).next = q[0]? := by
    have := h.qq.nxt 0 i rfl
    simpa using this
  let s0 : MS := { s with first := (s.wt i).next }
  let s1 : MS := { s0.setW i { s.wt i with done := true } with out := s.out ++ [⟨(s.wt i).tc, (s.wt i).frm⟩] }
  have hil : i < s0.ws.length := by show i < s.ws.length; rw [h.len]; exact hin
  have hw1 : ∀ j, s1.wt j = if j = i then { s.wt i with done := true } else s.wt j := by
    intro j
    by_cases hj : j = i
    · subst hj; rw [if_pos rfl]; exact wt_set_self (s := s0) hil _
    · rw [if_neg hj]; exact wt_set_ne (s := s0) (Ne.symm hj) _
  have hu1 : ∀ j, un s1 j = if j = i then false else un s j := by
    intro j
    unfold un
    rw [hw1]
    split <;> rfl
  obtain ⟨c, hc⟩ : ∃ c, (s.wt i).frm = c := ⟨_, rfl⟩
  have hgc : (g i).frm = c := by rw [← hc, (h.tc i hin).2]
  -- how many read it
  have hcn : cnt (fun j => un s j && decide ((g j).frm = c)) n = cnt (fun j => un s1 j && decide ((g j).frm = c)) n + 1 :=
    cnt_flip i (by simp [hui, hgc]) (by simp [hu1]) n hin (fun j _ hj => by simp [hu1, hj])
  have hrd : s.rd c = ((cnt (fun j => un s1 j && decide ((g j).frm = c)) n : Nat) : Int) + 1 := by rw [h.rds, hcn]; omega
  have hcle := cnt_le (fun j => un s1 j && decide ((g j).frm = c)) n
  obtain ⟨r, hr⟩ : ∃ r, cnt (fun j => un s1 j && decide ((g j).frm = c)) n = r := ⟨_, rfl⟩
  rw [hr] at hrd hcle
  let s2 : MS := { s1 with reads := updI s1.reads c (some (r : Int)) }
  have hd : doesP toF { s with first := (s.wt i).next } i = match toF c with
      | none => s2
      | some j => if (!(s2.wt j).done && ((r : Int) == 0)) = true then putP s2 j else s2 := by
    have h1 : doesP toF { s with first := (s.wt i).next } i = lessP toF s1 c := by
      show lessP toF s1 (s.wt i).frm = lessP toF s1 c
      rw [hc]
    rw [h1]
    have h2 : wrap1 (s1.rd c - 1) = (r : Int) := by
      have : s1.rd c = s.rd c := rfl
      rw [this, hrd, wrap1_in _ (by omega)]; omega
    unfold lessP
    simp only [h2]
    rfl
  have hq1 : QQ s2 q := by
    refine ⟨hni, fun j a ha => ?_, fun hq => ?_, hnd.2⟩
    · have hai : a ≠ i := fun e => hnd.1 (by rw [← e]; exact List.mem_of_getElem? ha)
      show (s1.wt a).next = _
      rw [hw1, if_neg hai]
      have := h.qq.nxt (j + 1) a (by rw [List.getElem?_cons_succ]; exact ha)
      rw [List.getElem?_cons_succ] at this
      exact this
    · show s.last = _
      rw [h.qq.last (by simp)]
      have : 0 < q.length := by cases q with
        | nil => exact absurd rfl hq
        | cons _ _ => simp
      simp only [List.length_cons, Nat.add_sub_cancel]
      obtain ⟨d, hd⟩ : ∃ d, q.length = d + 1 := ⟨q.length - 1, by omega⟩
      rw [hd, List.getElem?_cons_succ]; simp
  have hl2 : s2.ws.length = n := by
    show (s0.setW i _).ws.length = n
    rw [len_set]; exact h.len
  have hu2 : ∀ j, un s2 j = if j = i then false else un s j := hu1
  have hrd2 : ∀ x, s2.rd x = ((cnt (fun j => un s2 j && decide ((g j).frm = x)) n : Nat) : Int) := by
    intro x
    by_cases hx : x = c
    · subst hx
      show (updI s1.reads x (some (r : Int)) x).getD 0 = _
      unfold updI
      rw [if_pos rfl, Option.getD_some, ← hr]
      rfl
    · show (updI s1.reads c (some (r : Int)) x).getD 0 = _
      unfold updI
      rw [if_neg hx]
      show s.rd x = _
      rw [h.rds]
      congr 1
      refine cnt_congr n (fun j hj => ?_)
      show _ = (un s2 j && _)
      rw [hu2]
      by_cases hji : j = i
      · subst hji
        rw [if_pos rfl, hgc]
        simp [Ne.symm hx]
      · rw [if_neg hji]
  have hnum : cnt (un s) n = cnt (un s2) n + 1 := cnt_flip i hui (by rw [hu2, if_pos rfl]) n hin (fun j _ hj => by rw [hu2, if_neg hj])
  have hout : ∀ x ∈ s2.out, ∃ i, i < n ∧ x = g i := by
    intro x hx
    have hx : x ∈ s.out ++ [⟨(s.wt i).tc, (s.wt i).frm⟩] := hx
    rw [List.mem_append, List.mem_singleton] at hx
    rcases hx with hx | hx
    · exact h.out x hx
    · exact ⟨i, hin, by rw [hx, (h.tc i hin).1, (h.tc i hin).2]⟩
  have hol : s2.out.length + cnt (un s2) n = n := by
    have : s2.out.length = s.out.length + 1 := by show (s.out ++ [_]).length = _; simp
    have := h.num
    omega
  have htc : ∀ j, j < n → (s2.wt j).tc = (g j).tc ∧ (s2.wt j).frm = (g j).frm := by
    intro j hj
    show (s1.wt j).tc = _ ∧ (s1.wt j).frm = _
    rw [hw1]
    split
    · next e => subst e; exact h.tc _ hj
    · exact h.tc j hj
  have hkept : ∀ j, P j → j < n ∧ un s2 j = true := by
    intro j hj
    obtain ⟨h1, h2⟩ := h.kept j hj
    refine ⟨h1, ?_⟩
    rw [hu2]
    by_cases hji : j = i
    · exfalso
      subst hji
      obtain ⟨a, ha, hb⟩ := hP j hj
      obtain ⟨h3, h4⟩ := h.kept a ha
      have h5 := ((h.zero j h1 h2).1 (by simp)).2
      rw [h.rds] at h5
      have := cnt_pos (p := fun x => un s x && decide ((g x).frm = (g j).tc)) a (by simp [h4, hb]) n h3
      omega
    · rw [if_neg hji]; exact h2
  have hlt : ∀ j ∈ q, j < n ∧ un s2 j = true := by
    intro j hj
    obtain ⟨h1, h2⟩ := h.lt j (by simp [hj])
    refine ⟨h1, ?_⟩
    rw [hu2, if_neg (fun e => hnd.1 (by rw [← e]; exact hj))]
    exact h2
  -- the cell that i read is not read any more by just r
  have hzero : ∀ j, j < n → un s2 j = true → (g j).tc ≠ c → (j ∈ q ↔ s2.rd (g j).tc = 0) := by
    intro j hj hu hne
    have hji : j ≠ i := fun e => by rw [hu2, if_pos e] at hu; cases hu
    rw [hu2, if_neg hji] at hu
    have h1 := h.zero j hj hu
    have h2 : s2.rd (g j).tc = s.rd (g j).tc := by
      show (updI s1.reads c (some (r : Int)) (g j).tc).getD 0 = _
      unfold updI
      rw [if_neg hne]; rfl
    rw [h2]
    constructor
    · intro hm; exact (h1.1 (by simp [hm])).2
    · intro hm
      have := h1.2 ⟨hj, hm⟩
      rcases List.mem_cons.1 this with e | e
      · exact absurd e hji
      · exact e
  have hrc : s2.rd c = (r : Int) := by
    show (updI s1.reads c (some (r : Int)) c).getD 0 = _
    unfold updI
    rw [if_pos rfl, Option.getD_some]
  have hnotin : ∀ j, j < n → (g j).tc = c → j ∉ q := by
    intro j hj e hm
    have h2 := (h.lt j (by simp [hm])).2
    have h3 := ((h.zero j hj h2).1 (by simp [hm])).2
    rw [e, hrd] at h3
    omega
  rw [hd]
  cases hto : toF c with
  | none =>
    refine ⟨q, ⟨hq1, hl2, htc, hlt, hrd2, fun j hj hu => ?_, hkept, hout, hol⟩, hnum.symm⟩
    have hne : (g j).tc ≠ c := fun e => by rw [← e, hg.onto j hj] at hto; cases hto
    rw [hzero j hj hu hne]
    exact ⟨fun h => ⟨hj, h⟩, fun h => h.2⟩
  | some j =>
    obtain ⟨hjn, hjc⟩ := hg.of c j hto
    dsimp only
    by_cases hb : (!(s2.wt j).done && ((r : Int) == 0)) = true
    · rw [if_pos hb]
      rw [Bool.and_eq_true] at hb
      have hr0 : (r : Int) = 0 := by simpa using hb.2
      have huj : un s2 j = true := hb.1
      obtain ⟨p1, p2, p3, p4, p5⟩ := put_q hq1 j (by rw [hl2]; exact hjn) (fun a ha => by rw [hl2]; exact (hlt a ha).1) (hnotin j hjn hjc)
      have hun : ∀ a, un (putP s2 j) a = un s2 a := fun a => by unfold un; rw [(p5 a).2.2]
      have hrd3 : ∀ x, (putP s2 j).rd x = s2.rd x := fun x => by unfold MS.rd; rw [p3]
      refine ⟨q ++ [j], ⟨p1, by rw [p4, hl2], fun a ha => by rw [(p5 a).1, (p5 a).2.1]; exact htc a ha, fun a ha => ?_, fun x => ?_, fun a ha hu => ?_, fun a ha => by rw [hun]; exact hkept a ha, by rw [p2]; exact hout, ?_⟩, ?_⟩
      · rw [hun]
        rw [List.mem_append, List.mem_singleton] at ha
        rcases ha with ha | ha
        · exact hlt a ha
        · rw [ha]; exact ⟨hjn, huj⟩
      · rw [hrd3, hrd2]
        congr 1
        exact cnt_congr n (fun a _ => by rw [hun])
      · rw [hun] at hu
        rw [hrd3]
        by_cases hac : (g a).tc = c
        · have : a = j := hg.inj a j ha hjn (by rw [hac, hjc])
          subst this
          rw [hac, hrc]
          simp [hr0, ha]
        · have haj : a ≠ j := fun e => hac (by rw [e, hjc])
          rw [← hzero a ha hu hac]
          simp [haj, ha]
      · rw [p2, cnt_congr n (fun a _ => hun a)]; exact hol
      · rw [cnt_congr n (fun a _ => hun a)]; exact hnum.symm
    · rw [if_neg hb]
      refine ⟨q, ⟨hq1, hl2, htc, hlt, hrd2, fun a ha hu => ?_, hkept, hout, hol⟩, hnum.symm⟩
      by_cases hac : (g a).tc = c
      · have : a = j := hg.inj a j ha hjn (by rw [hac, hjc])
        subst this
        have hr0 : (r : Int) ≠ 0 := by
          intro e
          refine hb ?_
          rw [Bool.and_eq_true]
          exact ⟨hu, by rw [e]; rfl⟩
        rw [hac, hrc]
        constructor
        · intro hm; exact absurd hm (hnotin a ha hac)
        · intro hm; exact absurd hm.2 hr0
      · rw [hzero a ha hu hac]
        exact ⟨fun h => ⟨ha, h⟩, fun h => h.2⟩
/-- the row is worked off -/
theorem go_all {g : Nat → Mv} {n : Nat} {toF : Int → Option Nat} (hn : n ≤ 1000000) (hg : Gd g n toF) {P : Nat → Prop} (hP : ∀ i, P i → ∃ j, P j ∧ (g j).frm = (g i).tc) : ∀ (k : Nat) (s : MS) (q : List Nat), Inv g n P n s q → cnt (un s) n < k → ∃ s', goP toF k s = some s' ∧ Inv g n P n s' []
  | 0, s, q, _, h => by omega
  | k + 1, s, [], h, _ => by
    refine ⟨s, ?_, h⟩
    rw [goP, show s.first = none from h.qq.first]
  | k + 1, s, i :: q, h, hk => by
    obtain ⟨q', h1, h2⟩ := does_step hn hg hP h
    obtain ⟨s', h3, h4⟩ := go_all hn hg hP k _ q' h1 (by omega)
    refine ⟨s', ?_, h4⟩
    rw [goP, show s.first = some i from h.qq.first]
    exact h3
/-- those that nothing reads are laid into the row -/
theorem free_all {g : Nat → Mv} {n : Nat} {P : Nat → Prop} : ∀ (d m : Nat) (s : MS) (q : List Nat), m + d = n → (∀ i, i < n → un s i = true) → Inv g n P m s q → ∃ q', Inv g n P n (freeP (List.range' m d) s) q'
  | 0, m, s, q, hm, _, h => by
    obtain rfl : m = n := by omega
    exact ⟨q, h⟩
  | d + 1, m, s, q, hm, hu, h => by
    rw [List.range'_succ, freeP]
    have hmn : m < n := by omega
    have hnot : m ∉ q := fun hq => by
      have := ((h.zero m hmn (hu m hmn)).1 hq).1
      omega
    rw [(h.tc m hmn).1]
    by_cases hz : (s.rd (g m).tc == 0) = true
    · rw [if_pos hz]
      have hz' : s.rd (g m).tc = 0 := by simpa using hz
      obtain ⟨p1, p2, p3, p4, p5⟩ := put_q h.qq m (by rw [h.len]; exact hmn) (fun a ha => by rw [h.len]; exact (h.lt a ha).1) hnot
      have hun : ∀ a, un (putP s m) a = un s a := fun a => by unfold un; rw [(p5 a).2.2]
      have hrd3 : ∀ x, (putP s m).rd x = s.rd x := fun x => by unfold MS.rd; rw [p3]
      refine free_all d (m + 1) _ (q ++ [m]) (by omega) (fun i hi => by rw [hun]; exact hu i hi) ⟨p1, by rw [p4, h.len], fun a ha => by rw [(p5 a).1, (p5 a).2.1]; exact h.tc a ha, fun a ha => ?_, fun x => ?_, fun a ha hua => ?_, fun a ha => by rw [hun]; exact h.kept a ha, by rw [p2]; exact h.out, ?_⟩
      · rw [hun]
        rw [List.mem_append, List.mem_singleton] at ha
        rcases ha with ha | ha
        · exact h.lt a ha
        · rw [ha]; exact ⟨hmn, hu m hmn⟩
      · rw [hrd3, h.rds]
        congr 1
        exact cnt_congr n (fun a _ => by rw [hun])
      · rw [hun] at hua
        rw [hrd3, List.mem_append, List.mem_singleton, h.zero a ha hua]
        constructor
        · rintro (⟨h1, h2⟩ | h1)
          · exact ⟨by omega, h2⟩
          · rw [h1]; exact ⟨by omega, hz'⟩
        · rintro ⟨h1, h2⟩
          by_cases e : a = m
          · exact .inr e
          · exact .inl ⟨by omega, h2⟩
      · rw [p2, cnt_congr n (fun a _ => hun a)]; exact h.num
    · rw [if_neg hz]
      have hz' : s.rd (g m).tc ≠ 0 := by simpa using hz
      refine free_all d (m + 1) s q (by omega) hu ⟨h.qq, h.len, h.tc, h.lt, h.rds, fun a ha hua => ?_, h.kept, h.out, h.num⟩
      rw [h.zero a ha hua]
      constructor
      · rintro ⟨h1, h2⟩; exact ⟨by omega, h2⟩
      · rintro ⟨h1, h2⟩
        refine ⟨?_, h2⟩
        have : a ≠ m := fun e => hz' (by rw [← e]; exact h2)
        omega
end Go.Proofs.Ytihnmhemhcmmoaa
