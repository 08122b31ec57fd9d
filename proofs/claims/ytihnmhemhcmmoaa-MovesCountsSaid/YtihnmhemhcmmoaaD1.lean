/- Of copies, in plain words: what is left when nothing unread is left are rings; each is turned by one copy more. -/
import Derived.Test.YtihnmhemhcmmoaaD0
namespace Go.Proofs.Ytihnmhemhcmmoaa
open Go
set_option maxHeartbeats 1000000

structure Rg (g : Nat → Mv) (n : Nat) (s : MS) : Prop where
  first : s.first = none
  len : s.ws.length = n
  tc : ∀ i, i < n → (s.wt i).tc = (g i).tc
  frm : ∀ i, i < n → un s i = true → (s.wt i).frm = (g i).frm
  rd : ∀ i, i < n → un s i = true → s.rd (g i).tc = 1
  uniq : ∀ i j, i < n → j < n → un s i = true → un s j = true → (g i).frm = (g j).frm → i = j
  suc : ∀ j, j < n → un s j = true → ∃ i, i < n ∧ un s i = true ∧ (g i).tc = (g j).frm
/-- what stands in no row and is not done lies in rings -/
theorem rings_left {g : Nat → Mv} {n : Nat} {toF : Int → Option Nat} (hg : Gd g n toF) {P : Nat → Prop} {s : MS} (h : Inv g n P n s []) : Rg g n s := by
  have hex : ∀ i, ∃ j, i < n → un s i = true → j < n ∧ un s j = true ∧ (g j).frm = (g i).tc := by
    intro i
    by_cases hi : i < n ∧ un s i = true
    · have h1 : s.rd (g i).tc ≠ 0 := fun e => by
        have := (h.zero i hi.1 hi.2).2 ⟨hi.1, e⟩
        simp at this
      rw [h.rds] at h1
      obtain ⟨j, hj, h2⟩ := cnt_ex n (show 0 < cnt (fun j => un s j && decide ((g j).frm = (g i).tc)) n by omega)
      simp at h2
      exact ⟨j, fun _ _ => ⟨hj, h2.1, h2.2⟩⟩
    · exact ⟨0, fun h1 h2 => absurd ⟨h1, h2⟩ hi⟩
  obtain ⟨r, hr⟩ : ∃ r : Nat → Nat, ∀ i, i < n → un s i = true → r i < n ∧ un s (r i) = true ∧ (g (r i)).frm = (g i).tc := ⟨fun i => Classical.choose (hex i), fun i => Classical.choose_spec (hex i)⟩
  have hrinj : ∀ i j, i < n → j < n → un s i = true → un s j = true → r i = r j → i = j := by
    intro i j hi hj hui huj e
    refine hg.inj i j hi hj ?_
    rw [← (hr i hi hui).2.2, ← (hr j hj huj).2.2, e]
  have hmem : ∀ i, i ∈ (List.range n).filter (un s) ↔ i < n ∧ un s i = true := by intro i; simp
  have hsur : ∀ j, j < n → un s j = true → ∃ i, i < n ∧ un s i = true ∧ r i = j := by
    intro j hj huj
    by_cases hc : j ∈ ((List.range n).filter (un s)).map r
    · obtain ⟨i, hi, e⟩ := List.mem_map.1 hc
      exact ⟨i, ((hmem i).1 hi).1, ((hmem i).1 hi).2, e⟩
    · exfalso
      have hnd : (((List.range n).filter (un s)).map r).Nodup := by
        refine List.pairwise_map.2 ?_
        refine List.Pairwise.imp_of_mem ?_ (List.Pairwise.filter _ List.nodup_range)
        intro a b ha hb hab e
        exact hab (hrinj a b ((hmem a).1 ha).1 ((hmem b).1 hb).1 ((hmem a).1 ha).2 ((hmem b).1 hb).2 e)
      have h1 : (j :: ((List.range n).filter (un s)).map r).Nodup := List.nodup_cons.2 ⟨hc, hnd⟩
      have h2 := h1.length_le_of_subset (l₂ := (List.range n).filter (un s)) (fun x hx => by
        rcases List.mem_cons.1 hx with e | e
        · rw [e]; exact (hmem j).2 ⟨hj, huj⟩
        · obtain ⟨i, hi, e2⟩ := List.mem_map.1 e
          rw [← e2]
          have := hr i ((hmem i).1 hi).1 ((hmem i).1 hi).2
          exact (hmem _).2 ⟨this.1, this.2.1⟩)
      rw [List.length_cons, List.length_map] at h2
      omega
  have huq : ∀ i j, i < n → j < n → un s i = true → un s j = true → (g i).frm = (g j).frm → i = j := by
    intro i j hi hj hui huj e
    obtain ⟨a, ha, hua, ea⟩ := hsur i hi hui
    obtain ⟨b, hb, hub, eb⟩ := hsur j hj huj
    have h1 := (hr a ha hua).2.2
    have h2 := (hr b hb hub).2.2
    rw [ea] at h1
    rw [eb] at h2
    have := hg.inj a b ha hb (by rw [← h1, ← h2, e])
    rw [← ea, ← eb, this]
  refine ⟨h.qq.first, h.len, fun i hi => (h.tc i hi).1, fun i hi _ => (h.tc i hi).2, fun i hi hui => ?_, huq, fun j hj huj => ?_⟩
  · obtain ⟨h1, h2, h3⟩ := hr i hi hui
    rw [h.rds, cnt_one (r i) n h1 (fun j hj => ?_)]
    · rfl
    · simp only [Bool.and_eq_true, decide_eq_true_iff]
      constructor
      · rintro ⟨h4, h5⟩
        exact huq j (r i) hj h1 h4 h2 (by rw [h5, h3])
      · intro e
        rw [e]
        exact ⟨h2, h3⟩
  · obtain ⟨i, hi, hui, e⟩ := hsur j hj huj
    have := (hr i hi hui).2.2
    rw [e] at this
    exact ⟨i, hi, hui, this.symm⟩

theorem least_one {p : Nat → Prop} : ∀ n, p n → ∃ m, p m ∧ ∀ j, j < m → ¬ p j := by
  intro n
  induction n using Nat.strongRecOn with
  | ind n ih =>
    intro h
    by_cases hc : ∃ j, j < n ∧ p j
    · obtain ⟨j, hj, hp⟩ := hc
      exact ih j hj hp
    · exact ⟨n, h, fun j hj hp => hc ⟨j, hj, hp⟩⟩
/-- the way round, from i on -/
structure Orb (g : Nat → Mv) (n : Nat) (s : MS) (i : Nat) (L : Nat) (c : Nat → Nat) : Prop where
  c0 : c 0 = i
  lt : ∀ a, c a < n
  un : ∀ a, un s (c a) = true
  nx : ∀ a, (g (c (a + 1))).tc = (g (c a)).frm
  per : ∀ a, c (a + L) = c a
  ne : ∀ a d, 0 < d → d < L → c (a + d) ≠ c a
  pos : 2 ≤ L
  le : L ≤ n
theorem orbit {g : Nat → Mv} {n : Nat} {toF : Int → Option Nat} (hg : Gd g n toF) {s : MS} (h : Rg g n s) {i : Nat} (hi : i < n) (hu : un s i = true) : ∃ L c, Orb g n s i L c := by
  have hex : ∀ j : Nat, ∃ b : Nat, j < n → un s j = true → b < n ∧ un s b = true ∧ (g b).tc = (g j).frm := by
    intro j
    by_cases hj : j < n ∧ un s j = true
    · obtain ⟨b, h1, h2, h3⟩ := h.suc j hj.1 hj.2
      exact ⟨b, fun _ _ => ⟨h1, h2, h3⟩⟩
    · exact ⟨0, fun h1 h2 => absurd ⟨h1, h2⟩ hj⟩
  obtain ⟨σ, hσ⟩ : ∃ σ : Nat → Nat, ∀ j, j < n → un s j = true → σ j < n ∧ un s (σ j) = true ∧ (g (σ j)).tc = (g j).frm := ⟨fun i => Classical.choose (hex i), fun i => Classical.choose_spec (hex i)⟩
  let c : Nat → Nat := fun a => Nat.rec i (fun _ x => σ x) a
  have hcs : ∀ a, c (a + 1) = σ (c a) := fun a => rfl
  have hall : ∀ a, c a < n ∧ un s (c a) = true := by
    intro a
    induction a with
    | zero => exact ⟨hi, hu⟩
    | succ a ih =>
      rw [hcs]
      have := hσ (c a) ih.1 ih.2
      exact ⟨this.1, this.2.1⟩
  have hnx : ∀ a, (g (c (a + 1))).tc = (g (c a)).frm := fun a => by rw [hcs]; exact (hσ _ (hall a).1 (hall a).2).2.2
  have hback : ∀ d a b, c (a + d) = c (b + d) → c a = c b := by
    intro d
    induction d with
    | zero => intro a b e; exact e
    | succ d ih =>
      intro a b e
      refine ih a b ?_
      refine h.uniq _ _ (hall _).1 (hall _).1 (hall _).2 (hall _).2 ?_
      rw [← hnx, ← hnx]
      rw [show a + d + 1 = a + (d + 1) by omega, show b + d + 1 = b + (d + 1) by omega, e]
  have hpig : ∃ L, 0 < L ∧ L ≤ n ∧ c L = i := by
    by_cases hnd : ((List.range (n + 1)).map c).Nodup
    · exfalso
      have := hnd.length_le_of_subset (l₂ := List.range n) (fun x hx => by
        obtain ⟨a, _, e⟩ := List.mem_map.1 hx
        rw [← e]
        simpa using (hall a).1)
      simp at this
      omega
    · have : ∃ a b, a < b ∧ b < n + 1 ∧ c a = c b := by
        apply Classical.byContradiction
        intro hno
        refine hnd (List.pairwise_map.2 ?_)
        refine List.Pairwise.imp_of_mem ?_ (List.pairwise_lt_range (n := n + 1))
        intro a b _ hb hab e
        exact hno ⟨a, b, hab, by simpa using hb, e⟩
      obtain ⟨a, b, hab, hb, e⟩ := this
      refine ⟨b - a, by omega, by omega, ?_⟩
      have := hback a 0 (b - a) (by rw [show 0 + a = a by omega, show b - a + a = b by omega]; exact e)
      exact this.symm
  obtain ⟨L0, hL0⟩ := hpig
  obtain ⟨L, ⟨hL1, hL2, hL3⟩, hmin⟩ := least_one (p := fun L => 0 < L ∧ L ≤ n ∧ c L = i) L0 hL0
  have hper : ∀ a, c (a + L) = c a := by
    intro a
    induction a with
    | zero => rw [Nat.zero_add]; exact hL3
    | succ a ih => rw [show a + 1 + L = (a + L) + 1 by omega, hcs, ih, ← hcs]
  have hne : ∀ a d, 0 < d → d < L → c (a + d) ≠ c a := by
    intro a d h1 h2 e
    have := hback a d 0 (by rw [Nat.add_comm d a, Nat.zero_add]; exact e)
    exact hmin d h2 ⟨h1, by omega, this⟩
  refine ⟨L, c, ⟨rfl, fun a => (hall a).1, fun a => (hall a).2, hnx, hper, hne, ?_, hL2⟩⟩
  by_cases h1 : L = 1
  · exfalso
    have e := hnx 0
    have e2 := hper 0
    rw [h1] at e2
    rw [e2] at e
    exact hg.ne _ (hall 0).1 e
  · omega
/-- one lap, from a cell on, until cell t or -1 or no more steps -/
def lapP (fr : Int → Int) (t : Int) : Nat → Int → Bool → Int × Bool
  | 0, x, l => (x, l)
  | k + 1, x, l => if 0 ≤ x ∧ x ≠ t then lapP fr t k (fr x) (l && decide (t < x)) else (x, l)
theorem lap_run (fr : Int → Int) (t : Int) : ∀ (M : Nat) (a : Nat → Int) (K : Nat) (l : Bool), (∀ m, fr (a m) = a (m + 1)) → (∀ m, 0 ≤ a m) → a M = t → (∀ m, m < M → a m ≠ t) → M ≤ K → (lapP fr t K (a 0) l).1 = t ∧ ((lapP fr t K (a 0) l).2 = true ↔ l = true ∧ ∀ m, m < M → t < a m)
  | 0, a, K, l, h1, h2, h3, h4, h5 => by
    cases K with
    | zero => rw [lapP]; exact ⟨h3, by simp⟩
    | succ K => rw [lapP, if_neg (by rw [h3]; simp)]; exact ⟨h3, by simp⟩
  | M + 1, a, K, l, h1, h2, h3, h4, h5 => by
    obtain ⟨k, rfl⟩ : ∃ k, K = k + 1 := ⟨K - 1, by omega⟩
    rw [lapP, if_pos ⟨h2 0, h4 0 (by omega)⟩, h1 0]
    obtain ⟨g1, g2⟩ := lap_run fr t M (fun m => a (m + 1)) k (l && decide (t < a 0)) (fun m => h1 (m + 1)) (fun m => h2 (m + 1)) h3 (fun m hm => h4 (m + 1) (by omega)) (by omega)
    refine ⟨g1, ?_⟩
    rw [g2, Bool.and_eq_true, decide_eq_true_iff]
    constructor
    · rintro ⟨⟨h6, h7⟩, h8⟩
      refine ⟨h6, fun m hm => ?_⟩
      cases m with
      | zero => exact h7
      | succ m => exact h8 m (by omega)
    · rintro ⟨h6, h7⟩
      exact ⟨⟨h6, h7 0 (by omega)⟩, fun m hm => h7 (m + 1) (by omega)⟩
def itF (fr : Int → Int) (x : Int) : Nat → Int
  | 0 => x
  | m + 1 => itF fr (fr x) m
theorem itF_succ (fr : Int → Int) : ∀ (m : Nat) (x : Int), itF fr x (m + 1) = fr (itF fr x m)
  | 0, _ => rfl
  | m + 1, x => by rw [itF, itF_succ fr m, itF]
theorem lap_back (fr : Int → Int) (t : Int) (ht : 0 ≤ t) : ∀ (K : Nat) (x : Int) (l : Bool), (lapP fr t K x l).1 = t → ∃ m, itF fr x m = t ∧ ∀ j, j ≤ m → 0 ≤ itF fr x j
  | 0, x, l, h => ⟨0, h, fun j hj => by obtain rfl : j = 0 := (by omega); have h : x = t := h; rw [itF, h]; exact ht⟩
  | K + 1, x, l, h => by
    rw [lapP] at h
    split at h
    · next hc =>
      obtain ⟨m, h1, h2⟩ := lap_back fr t ht K _ _ h
      refine ⟨m + 1, h1, fun j hj => ?_⟩
      cases j with
      | zero => exact hc.1
      | succ j => exact h2 j (by omega)
    · exact ⟨0, h, fun j hj => by obtain rfl : j = 0 := (by omega); have h : x = t := h; rw [itF, h]; exact ht⟩
/-- a ring is counted at this copy -/
def ringB (g : Nat → Mv) (fr : Int → Int) (K : Nat) (i : Nat) : Bool :=
  let r := lapP fr (g i).tc K (g i).frm true
  decide (r.1 = (g i).tc) && r.2
structure Fr (g : Nat → Mv) (n : Nat) (fr : Int → Int) : Prop where
  at_ : ∀ i, i < n → fr (g i).tc = (g i).frm
  of : ∀ c, fr c ≠ -1 → ∃ i, i < n ∧ (g i).tc = c ∧ fr c = (g i).frm
theorem ring_orb {g : Nat → Mv} {n : Nat} {toF : Int → Option Nat} (hg : Gd g n toF) (hpos : ∀ i, i < n → 0 ≤ (g i).tc) {fr : Int → Int} (hfr : Fr g n fr) {s : MS} {i L : Nat} {c : Nat → Nat} (h : Orb g n s i L c) {K : Nat} (hK : n ≤ K) (j : Nat) :
    ringB g fr K (c j) = true ↔ ∀ d, 0 < d → d < L → (g (c j)).tc < (g (c (j + d))).tc := by
  have hp := h.pos
  obtain ⟨h1, h2⟩ := lap_run fr (g (c j)).tc (L - 1) (fun m => (g (c (j + 1 + m))).tc) K true (fun m => by rw [hfr.at_ _ (h.lt _), ← h.nx]; rfl) (fun m => hpos _ (h.lt _))
    (by show (g (c (j + 1 + (L - 1)))).tc = _; rw [show j + 1 + (L - 1) = j + L by omega, h.per])
    (fun m hm e => h.ne j (1 + m) (by omega) (by omega) (hg.inj _ _ (h.lt _) (h.lt _) (by rw [show j + (1 + m) = j + 1 + m by omega]; exact e)))
    (by have := h.le; omega)
  have h0 : (g (c (j + 1 + 0))).tc = (g (c j)).frm := h.nx j
  simp only [h0] at h1 h2
  unfold ringB
  dsimp only
  rw [h1, Bool.and_eq_true, h2]
  simp only [decide_true, true_and]
  constructor
  · intro h3 d hd hdL
    have := h3 (d - 1) (by omega)
    rw [show j + 1 + (d - 1) = j + d by omega] at this
    exact this
  · intro h3 m hm
    have := h3 (1 + m) (by omega) (by omega)
    rw [show j + (1 + m) = j + 1 + m by omega] at this
    exact this
theorem min_at (f : Nat → Int) : ∀ L, 0 < L → ∃ j, j < L ∧ ∀ a, a < L → f j ≤ f a
  | 0, h => by omega
  | 1, _ => ⟨0, by omega, fun a ha => by obtain rfl : a = 0 := (by omega); exact Int.le_refl _⟩
  | L + 2, _ => by
    obtain ⟨j, hj, h⟩ := min_at f (L + 1) (by omega)
    by_cases hc : f j ≤ f (L + 1)
    · refine ⟨j, by omega, fun a ha => ?_⟩
      by_cases e : a = L + 1
      · rw [e]; exact hc
      · exact h a (by omega)
    · refine ⟨L + 1, by omega, fun a ha => ?_⟩
      by_cases e : a = L + 1
      · rw [e]; exact Int.le_refl _
      · have := h a (by omega); omega
/-- each ring is counted at one copy -/
theorem ring_once {g : Nat → Mv} {n : Nat} {toF : Int → Option Nat} (hg : Gd g n toF) (hpos : ∀ i, i < n → 0 ≤ (g i).tc) {fr : Int → Int} (hfr : Fr g n fr) {s : MS} {i L : Nat} {c : Nat → Nat} (h : Orb g n s i L c) {K : Nat} (hK : n ≤ K) :
    ∃ j, j < L ∧ ∀ a, a < L → (ringB g fr K (c a) = true ↔ c a = c j) := by
  have hp := h.pos
  obtain ⟨j, hj, hmin⟩ := min_at (fun a => (g (c a)).tc) L (by omega)
  have hdiff : ∀ a b, a < L → b < L → a ≠ b → c a ≠ c b := by
    intro a b ha hb hab e
    by_cases hlt : a < b
    · exact h.ne a (b - a) (by omega) (by omega) (by rw [show a + (b - a) = b by omega]; exact e.symm)
    · exact h.ne b (a - b) (by omega) (by omega) (by rw [show b + (a - b) = a by omega]; exact e)
  have hred : ∀ a d, a < L → 0 < d → d < L → ∃ b, b < L ∧ b ≠ a ∧ c (a + d) = c b := by
    intro a d ha hd hdL
    by_cases hw : a + d < L
    · exact ⟨a + d, hw, by omega, rfl⟩
    · refine ⟨a + d - L, by omega, by omega, ?_⟩
      have := h.per (a + d - L)
      rw [show a + d - L + L = a + d by omega] at this
      exact this
  have hjr : ringB g fr K (c j) = true := by
    rw [ring_orb hg hpos hfr h hK]
    intro d hd hdL
    obtain ⟨b, hb, hba, e⟩ := hred j d hj hd hdL
    have h1 := hmin b hb
    have h2 : (g (c j)).tc ≠ (g (c b)).tc := fun e2 => hdiff j b hj hb (Ne.symm hba) (hg.inj _ _ (h.lt _) (h.lt _) e2)
    rw [e]
    have h1 : (g (c j)).tc ≤ (g (c b)).tc := h1
    omega
  refine ⟨j, hj, fun a ha => ⟨fun hr => ?_, fun e => by rw [e]; exact hjr⟩⟩
  apply Classical.byContradiction
  intro hne
  have haj : a ≠ j := fun e => hne (by rw [e])
  rw [ring_orb hg hpos hfr h hK] at hr
  have h1 := hmin a ha
  have h1 : (g (c j)).tc ≤ (g (c a)).tc := h1
  by_cases hlt : a < j
  · have := hr (j - a) (by omega) (by omega)
    rw [show a + (j - a) = j by omega] at this
    omega
  · have := hr (L - (a - j)) (by omega) (by omega)
    rw [show a + (L - (a - j)) = j + L by omega, h.per] at this
    omega
theorem turn_spec (spare : Int) : ∀ (l : List Nat) (s : MS), (∀ i ∈ l, i < s.ws.length) → (turnP spare l s).first = s.first ∧ (turnP spare l s).out = s.out ∧ (turnP spare l s).reads = s.reads ∧ (turnP spare l s).ws.length = s.ws.length ∧ ∀ j, (turnP spare l s).wt j = if j ∈ l ∧ un s j = true then { s.wt j with frm := spare } else s.wt j
  | [], s, _ => ⟨rfl, rfl, rfl, rfl, fun j => by simp [turnP]⟩
  | x :: l, s, h => by
    rw [turnP]
    by_cases hd : (s.wt x).done = true
    · rw [if_pos hd]
      obtain ⟨h1, h2, h3, h4, h5⟩ := turn_spec spare l s (fun i hi => h i (by simp [hi]))
      refine ⟨h1, h2, h3, h4, fun j => ?_⟩
      rw [h5]
      by_cases hj : j = x
      · have hu : ¬ un s j = true := by unfold un; rw [hj, hd]; simp
        rw [if_neg (fun e => hu e.2), if_neg (fun e => hu e.2)]
      · simp [hj]
    · rw [if_neg hd]
      have hxl := h x (by simp)
      obtain ⟨h1, h2, h3, h4, h5⟩ := turn_spec spare l (s.setW x { s.wt x with frm := spare }) (fun i hi => by rw [len_set]; exact h i (by simp [hi]))
      refine ⟨h1, h2, h3, by rw [h4, len_set], fun j => ?_⟩
      rw [h5]
      by_cases hj : j = x
      · subst hj
        have hux : un s j = true := by unfold un; simpa using hd
        have e := wt_set_self (s := s) hxl { s.wt j with frm := spare }
        unfold un
        rw [e, if_pos (show j ∈ j :: l ∧ (!(s.wt j).done) = true from ⟨by simp, hux⟩)]
        split <;> rfl
      · have e := wt_set_ne (s := s) (Ne.symm hj) { s.wt x with frm := spare }
        unfold un
        rw [e]
        simp [hj]
end Go.Proofs.Ytihnmhemhcmmoaa
