/- Numbers as digits, plain. -/
import Derived.Test.YthmhbhlkbihdbaaB0
namespace LexP

/-- what the lexer answers; none: the text is too long -/
def lexTop' (l : List UInt8) : Option LexR := if 8192 < l.length then none else some (lexL l)

/-- the digits of a number, ahead of what is there already -/
def digs : Nat → Nat → List UInt8 → List UInt8
  | 0, _, acc => acc
  | f + 1, m, acc => if m = 0 then acc else digs f (m / 10) ((48 + UInt8.ofNat (m % 10)) :: acc)
def numL (n : Nat) : List UInt8 := if n = 0 then [48] else digs 20 n []

theorem dig_val (d : Nat) (h : d < 10) : ((48 : UInt8) + UInt8.ofNat d).toNat = 48 + d := by
  rw [UInt8.toNat_add]
  simp
  omega
theorem digitI_dig (d : Nat) (h : d < 10) : digitI (((48 : UInt8) + UInt8.ofNat d).toNat) = true := by
  rw [dig_val d h]; simp [digitI]; omega

/-- all bytes are digits -/
def allDig (l : List UInt8) : Prop := ∀ c ∈ l, digitI c.toNat = true
theorem digs_all : ∀ (f m : Nat) (acc : List UInt8), allDig acc → allDig (digs f m acc) := by
  intro f
  induction f with
  | zero => intro m acc h; exact h
  | succ f ih =>
    intro m acc h
    rw [digs]
    split
    · exact h
    · refine ih (m / 10) _ ?_
      intro c hc
      rcases List.mem_cons.1 hc with rfl | hc
      · exact digitI_dig _ (by omega)
      · exact h c hc
theorem digs_len : ∀ (f m : Nat) (acc : List UInt8), (digs f m acc).length ≤ f + acc.length := by
  intro f
  induction f with
  | zero => intro m acc; simp [digs]
  | succ f ih =>
    intro m acc
    rw [digs]
    split
    · omega
    · have := ih (m / 10) ((48 + UInt8.ofNat (m % 10)) :: acc)
      simp at this
      omega

/-- the value of digits, plainly -/
def valD (v : Nat) (l : List UInt8) : Nat := l.foldl (fun v c => v * 10 + (c.toNat - 48)) v
theorem valD_mono (l : List UInt8) : ∀ v, v ≤ valD v l := by
  induction l with
  | nil => intro v; exact Nat.le_refl _
  | cons c r ih => intro v; have := ih (v * 10 + (c.toNat - 48)); simp only [valD, List.foldl_cons] at this ⊢; omega
theorem digs_append : ∀ (f m : Nat) (acc : List UInt8), digs f m acc = digs f m [] ++ acc := by
  intro f
  induction f with
  | zero => intro m acc; rfl
  | succ f ih =>
    intro m acc
    rw [digs, digs]
    split
    · rfl
    · rw [ih _ (_ :: acc), ih _ [_], List.append_assoc]; rfl
theorem valD_digs : ∀ (f m : Nat), m < 10 ^ f → valD 0 (digs f m []) = m := by
  intro f
  induction f with
  | zero => intro m h; simp at h; subst h; rfl
  | succ f ih =>
    intro m h
    rw [digs]
    split
    · rename_i h0; rw [h0]; rfl
    · rw [digs_append]
      have h1 := ih (m / 10) (by rw [Nat.pow_succ] at h; omega)
      simp only [valD] at h1 ⊢
      rw [List.foldl_append, h1]
      simp only [List.foldl_cons, List.foldl_nil]
      rw [dig_val _ (by omega)]
      omega
theorem digV_val (l : List UInt8) : ∀ (v : Nat), allDig l → valD v l ≤ 9223372036854775807 → digV v l = some (valD v l : Int) := by
  induction l with
  | nil => intro v _ _; rfl
  | cons c r ih =>
    intro v ha hv
    have hc := ha c (by simp)
    have hc2 : 48 ≤ c.toNat ∧ c.toNat ≤ 57 := by simp [digitI] at hc; omega
    have hm := valD_mono r (v * 10 + (c.toNat - 48))
    have hv' : valD (v * 10 + (c.toNat - 48)) r ≤ 9223372036854775807 := hv
    have h1 := ih (v * 10 + (c.toNat - 48)) (fun x hx => ha x (by simp [hx])) hv'
    rw [digV, hc, decide_eq_true (by omega)]
    simp only [Bool.and_self, if_true]
    have e : (v : Int) * 10 + ((c.toNat : Int) - 48) = ((v * 10 + (c.toNat - 48) : Nat) : Int) := by omega
    rw [e, h1]
    rfl
theorem wrun_dig (l : List UInt8) (h : allDig l) : wrun l = l.length := by
  induction l with
  | nil => rfl
  | cons c r ih => rw [wrun, if_pos (by simp [wordC, h c (by simp)]), ih (fun x hx => h x (by simp [hx]))]; rfl
theorem digs_head : ∀ (f m : Nat) (acc : List UInt8), 0 < m → m < 10 ^ f → ∃ d r, digs f m acc = d :: r ∧ 49 ≤ d.toNat ∧ d.toNat ≤ 57 := by
  intro f
  induction f with
  | zero => intro m acc h h2; simp at h2; omega
  | succ f ih =>
    intro m acc h h2
    rw [digs, if_neg (by omega)]
    by_cases h3 : m / 10 = 0
    · refine ⟨48 + UInt8.ofNat (m % 10), acc, ?_, ?_⟩
      · rw [h3]; cases f <;> rfl
      · rw [dig_val _ (by omega)]; omega
    · exact ih (m / 10) _ (by omega) (by rw [Nat.pow_succ] at h2; omega)

theorem numL_all (n : Nat) : allDig (numL n) := by
  rw [numL]; split
  · intro c hc; simp at hc; subst hc; rfl
  · exact digs_all _ _ _ (by intro c hc; cases hc)
theorem numL_len (n : Nat) : (numL n).length ≤ 20 := by
  rw [numL]; split
  · simp
  · exact digs_len _ _ _
theorem numL_head (n : Nat) (h : n ≤ 9223372036854775807) : ∃ d r, numL n = d :: r ∧ digitI d.toNat = true ∧ (n = 0 ∧ r = [] ∨ ((d.toNat : Int) == 48) = false) := by
  by_cases h0 : n = 0
  · exact ⟨48, [], by rw [numL, if_pos h0], rfl, .inl ⟨h0, rfl⟩⟩
  · obtain ⟨d, r, h1, h2, h3⟩ := digs_head 20 n [] (by omega) (by omega)
    exact ⟨d, r, by rw [numL, if_neg h0, h1], by simp [digitI]; omega, .inr (by simp; omega)⟩
theorem numL_val (n : Nat) (h : n ≤ 9223372036854775807) : digV 0 (numL n) = some (n : Int) := by
  have hv : valD 0 (numL n) = n := by
    rw [numL]; split
    · rename_i h0; rw [h0]; rfl
    · exact valD_digs 20 n (by omega)
  have := digV_val (numL n) 0 (numL_all n) (by rw [hv]; exact h)
  rw [hv] at this
  exact this

theorem dig_not (c : UInt8) (h : digitI c.toNat = true) : letterI c.toNat = false ∧ wsI c.toNat = false ∧ ((c.toNat : Int) == 47) = false := by
  simp only [digitI, Bool.and_eq_true, decide_eq_true_eq] at h
  refine ⟨?_, ?_, ?_⟩
  · simp [letterI]; omega
  · simp [wsI]; omega
  · simp; omega
theorem blank0 (c : UInt8) (r : List UInt8) (h1 : wsI c.toNat = false) (h2 : ((c.toNat : Int) == 47) = false) : blankGo false (c :: r) = 0 := by
  rw [blankGo, h1, h2]; simp
theorem lexL_start (c : UInt8) (r : List UInt8) (h1 : wsI c.toNat = false) (h2 : ((c.toNat : Int) == 47) = false) : lexL (c :: r) = lexNB (r.length + 1) 0 (c :: r) := by
  rw [lexL, lexGo_NB, blank0 c r h1 h2]; rfl
theorem nextL_dig (c : UInt8) (r : List UInt8) (h : digitI c.toNat = true) : nextL (c :: r) = (numT ((c :: r).take (wrun (c :: r)))).map fun v => ⟨3, wrun (c :: r), (c :: r).take (wrun (c :: r)), v⟩ := by
  rw [nextL, if_neg (by rw [(dig_not c h).1]; simp), if_pos h]

theorem lex_number (n : Nat) (h : n ≤ 9223372036854775807) : lexTop' (numL n) = some (.good [⟨3, numL n, n, 0⟩, ⟨0, [], 0, (numL n).length⟩]) := by
  have hl := numL_len n
  have hv := numL_val n h
  have ha := numL_all n
  obtain ⟨d, r, he, hd, ho⟩ := numL_head n h
  have hw := wrun_dig _ ha
  rw [he] at hl hv ha hw ⊢
  have hn : numT (d :: r) = some (n : Int) := by
    rw [numT, if_neg, hv]
    rcases ho with ⟨_, rfl⟩ | ho
    · simp
    · simp only [headIs, ho]; simp
  have hx : nextL (d :: r) = some ⟨3, (d :: r).length, d :: r, n⟩ := by
    rw [nextL_dig d r hd, hw, List.take_length, hn]; rfl
  rw [lexTop', if_neg (by omega), lexL_start d r (dig_not d hd).2.1 (dig_not d hd).2.2]
  simp only [lexNB, hx]
  have hdr : (d :: r).drop (d :: r).length = [] := List.drop_length
  rw [hdr, lexGo_NB]
  simp [blankGo, lexNB, LexR.put]
theorem lex_nought (n : Nat) (h : n ≤ 9223372036854775807) : lexTop' (48 :: numL n) = some (.bad 0) := by
  have hl := numL_len n
  have ha := numL_all n
  obtain ⟨d, r, he, _, _⟩ := numL_head n h
  have ha2 : allDig (48 :: numL n) := by
    intro c hc
    rcases List.mem_cons.1 hc with rfl | hc
    · rfl
    · exact ha c hc
  have hw := wrun_dig _ ha2
  have hx : nextL (48 :: numL n) = none := by
    rw [nextL_dig _ _ (by rfl), hw, List.take_length, numT, if_pos]
    · rfl
    · rw [he]; simp [headIs]
  rw [lexTop', if_neg (by simp; omega), lexL_start _ _ (by rfl) (by rfl)]
  simp only [lexNB, hx]
theorem digV_letter (c : UInt8) (hc : digitI c.toNat = false) (l : List UInt8) : ∀ v, digV v (l ++ [c]) = none := by
  induction l with
  | nil => intro v; simp [digV, hc]
  | cons d r ih => intro v; simp only [List.cons_append, digV]; split
                   · exact ih _
                   · rfl
theorem lex_letter (n : Nat) (h : n ≤ 9223372036854775807) (c : UInt8) (hc : letterI c.toNat = true) : lexTop' (numL n ++ [c]) = some (.bad 0) := by
  have hl := numL_len n
  have ha := numL_all n
  have hcd : digitI c.toNat = false := by
    cases hd : digitI c.toNat
    · rfl
    · rw [(dig_not c hd).1] at hc; cases hc
  have hw : ∀ l : List UInt8, allDig l → wrun (l ++ [c]) = (l ++ [c]).length := by
    intro l
    induction l with
    | nil => intro _; simp [wrun, wordC, hc]
    | cons d r ih => intro hd; simp only [List.cons_append, wrun]; rw [if_pos (by simp [wordC, hd d (by simp)]), ih (fun x hx => hd x (by simp [hx]))]; rfl
  have hw := hw _ ha
  obtain ⟨d, r, he, hd, _⟩ := numL_head n h
  have hx : nextL (numL n ++ [c]) = none := by
    have hz : numT (numL n ++ [c]) = none := by
      rw [numT]; split
      · rfl
      · exact digV_letter c hcd _ _
    rw [he] at hw hz ⊢
    simp only [List.cons_append] at hw hz ⊢
    rw [nextL_dig _ _ hd, hw, List.take_length, hz]; rfl
  rw [he] at hx hl ⊢
  simp only [List.cons_append] at hx ⊢
  rw [lexTop', if_neg (by simp at hl ⊢; omega), lexL_start _ _ (dig_not d hd).2.1 (dig_not d hd).2.2]
  simp only [lexNB, hx]

end LexP
