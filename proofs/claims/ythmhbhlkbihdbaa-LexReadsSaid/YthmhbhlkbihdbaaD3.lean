/- The tokens of two texts with a new line between, plain. -/
import Derived.Test.YthmhbhlkbihdbaaD0
namespace LexP

theorem blank_join (t : List UInt8) (l : List UInt8) : ∀ b, (blankGo b l = l.length → blankGo b (l ++ 10 :: t) = l.length + 1 + blankGo false t) ∧ (blankGo b l ≠ l.length → blankGo b (l ++ 10 :: t) = blankGo b l) := by
  induction l with
  | nil =>
    intro b
    have e : blankGo b (10 :: t) = blankGo false t + 1 := by cases b <;> rfl
    have e0 : blankGo b [] = 0 := by cases b <;> rfl
    rw [List.nil_append, e, e0]
    exact ⟨fun _ => by simp; omega, fun h => absurd rfl h⟩
  | cons c r ih =>
    have h1 := ih true
    have h2 := ih false
    intro b
    rw [List.cons_append, List.length_cons]
    cases b
    · by_cases hw : wsI c.toNat = true
      · have e1 : blankGo false (c :: r) = blankGo false r + 1 := by rw [blankGo, if_pos hw]
        have e2 : blankGo false (c :: (r ++ 10 :: t)) = blankGo false (r ++ 10 :: t) + 1 := by rw [blankGo, if_pos hw]
        rw [e1, e2]
        exact ⟨fun h => by rw [h2.1 (by omega)]; omega, fun h => by rw [h2.2 (by omega)]⟩
      · have hh : headIs 47 (r ++ 10 :: t) = headIs 47 r := by cases r <;> rfl
        by_cases h47 : ((c.toNat : Int) == 47 && headIs 47 r) = true
        · have e1 : blankGo false (c :: r) = blankGo true r + 1 := by rw [blankGo, if_neg hw, if_pos h47]
          have e2 : blankGo false (c :: (r ++ 10 :: t)) = blankGo true (r ++ 10 :: t) + 1 := by rw [blankGo, if_neg hw, hh, if_pos h47]
          rw [e1, e2]
          exact ⟨fun h => by rw [h1.1 (by omega)]; omega, fun h => by rw [h1.2 (by omega)]⟩
        · have e1 : blankGo false (c :: r) = 0 := by rw [blankGo, if_neg hw, if_neg h47]
          have e2 : blankGo false (c :: (r ++ 10 :: t)) = 0 := by rw [blankGo, if_neg hw, hh, if_neg h47]
          rw [e1, e2]
          exact ⟨fun h => by omega, fun _ => rfl⟩
    · by_cases hw : ((c.toNat : Int) == 10) = true
      · have e1 : blankGo true (c :: r) = blankGo false r + 1 := by rw [blankGo, if_pos hw]
        have e2 : blankGo true (c :: (r ++ 10 :: t)) = blankGo false (r ++ 10 :: t) + 1 := by rw [blankGo, if_pos hw]
        rw [e1, e2]
        exact ⟨fun h => by rw [h2.1 (by omega)]; omega, fun h => by rw [h2.2 (by omega)]⟩
      · have e1 : blankGo true (c :: r) = blankGo true r + 1 := by rw [blankGo, if_neg hw]
        have e2 : blankGo true (c :: (r ++ 10 :: t)) = blankGo true (r ++ 10 :: t) + 1 := by rw [blankGo, if_neg hw]
        rw [e1, e2]
        exact ⟨fun h => by rw [h1.1 (by omega)]; omega, fun h => by rw [h1.2 (by omega)]⟩

theorem wrun_join (t : List UInt8) (l : List UInt8) : wrun (l ++ 10 :: t) = wrun l := by
  induction l with
  | nil => rfl
  | cons c r ih => simp only [List.cons_append, wrun, ih]
theorem quote_join (t : List UInt8) : ∀ (m : Nat) (l : List UInt8), l.length ≤ m → ∀ b, quoteGo b (l ++ 10 :: t) = quoteGo b l := by
  intro m
  have base : ∀ b, quoteGo b (10 :: t) = none := by
    intro b
    by_cases h : decide (100 < b.length) = true
    · exact quoteGo_long _ _ _ h
    · exact quoteGo_bad _ _ _ (by simpa using h) (by rfl) (by rfl)
  induction m with
  | zero =>
    intro l hl b
    have : l = [] := List.length_eq_zero_iff.1 (by omega)
    subst this
    exact base b
  | succ m ih =>
    intro l hl b
    cases l with
    | nil => exact base b
    | cons c r =>
      simp only [List.length_cons] at hl
      by_cases h1 : decide (100 < b.length) = true
      · rw [List.cons_append, quoteGo_long _ _ _ h1, quoteGo_long _ _ _ h1]
      have h1 : decide (100 < b.length) = false := by simpa using h1
      by_cases h2 : ((c.toNat : Int) == 34) = true
      · rw [List.cons_append, quoteGo_quote _ _ _ h1 h2, quoteGo_quote _ _ _ h1 h2]
      have h2 : ((c.toNat : Int) == 34) = false := by simpa using h2
      by_cases h3 : (decide ((c.toNat : Int) < 32) || decide (126 < (c.toNat : Int))) = true
      · rw [List.cons_append, quoteGo_bad _ _ _ h1 h2 h3, quoteGo_bad _ _ _ h1 h2 h3]
      have h3 : (decide ((c.toNat : Int) < 32) || decide (126 < (c.toNat : Int))) = false := by simpa using h3
      by_cases h4 : ((c.toNat : Int) == 92) = true
      · cases r with
        | nil =>
          rw [quoteGo_esc_end _ _ h1 h2 h3 h4, List.cons_append, List.nil_append, quoteGo_esc _ _ _ h1 h2 h3 h4]
          rfl
        | cons d r =>
          simp only [List.length_cons] at hl
          rw [List.cons_append, List.cons_append, quoteGo_esc _ _ _ h1 h2 h3 h4, quoteGo_esc _ _ _ h1 h2 h3 h4, ih r (by omega), ih r (by omega)]
      have h4 : ((c.toNat : Int) == 92) = false := by simpa using h4
      rw [List.cons_append, quoteGo_plain _ _ _ h1 h2 h3 h4, quoteGo_plain _ _ _ h1 h2 h3 h4, ih r (by omega)]
theorem twoL_nl (c : UInt8) : twoL [c, 10] = false := by
  simp [twoL]
theorem signN_join (t : List UInt8) (c : UInt8) (r : List UInt8) : signN (c :: r ++ 10 :: t) = signN (c :: r) := by
  cases r with
  | nil =>
    have e1 : signN (c :: 10 :: t) = if oneI c.toNat then 1 else 0 := by rw [signN, if_neg (by simp [twoL])]
    have e2 : signN [c] = if oneI c.toNat then 1 else 0 := by rw [signN, if_neg (by simp)]
    rw [List.cons_append, List.nil_append, e1, e2]
  | cons d r =>
    simp only [List.cons_append, signN]
    rw [show decide (1 < (c :: d :: (r ++ 10 :: t)).length) = true by simp, show decide (1 < (c :: d :: r).length) = true by simp]
    rfl
theorem take_join (l : List UInt8) (x : List UInt8) (n : Nat) (h : n ≤ l.length) : (l ++ x).take n = l.take n := by
  rw [List.take_append_of_le_length h]
theorem signN_le (c : UInt8) (r : List UInt8) : signN (c :: r) ≤ (c :: r).length := by
  rw [signN]; split
  · rename_i h; simp only [Bool.and_eq_true, decide_eq_true_eq] at h; omega
  · split <;> simp
theorem nextL_join (t : List UInt8) (c : UInt8) (r : List UInt8) : nextL (c :: r ++ 10 :: t) = nextL (c :: r) := by
  have hw := wrun_join t (c :: r)
  have hs := signN_join t c r
  have hq := quote_join t _ r (Nat.le_refl _) []
  have ht := take_join (c :: r) (10 :: t) _ (wrun_len (c :: r))
  have hts := take_join (c :: r) (10 :: t) _ (signN_le c r)
  simp only [List.cons_append] at hw hs ht hts ⊢
  simp only [nextL, hw, hs, hq, ht, hts]

/-- more fuel than bytes: it does not matter how much -/
theorem lexGo_fuel : ∀ (f : Nat) (p : Nat) (l : List UInt8), l.length < f → ∀ F, l.length < F → lexGo f p l = lexGo F p l := by
  intro f
  induction f with
  | zero => intro p l h; omega
  | succ f ih =>
    intro p l h F hF
    cases F with
    | zero => omega
    | succ F =>
      rw [lexGo_NB, lexGo_NB]
      have hb := blankGo_len l false
      cases he : l.drop (blankGo false l) with
      | nil => rfl
      | cons c r =>
        have hlen : (c :: r).length = l.length - blankGo false l := by rw [← he]; simp
        simp only [lexNB]
        cases hn : nextL (c :: r) with
        | none => rfl
        | some t =>
          have ht := nextL_len _ _ hn
          simp only
          rw [ih _ _ (by rw [List.length_drop]; omega) F (by rw [List.length_drop]; omega)]
theorem lexNB_fuel (f F p : Nat) (l : List UInt8) (h : l.length ≤ f) (hF : l.length ≤ F) : lexNB f p l = lexNB F p l := by
  cases l with
  | nil => rfl
  | cons c r =>
    simp only [lexNB]
    cases hn : nextL (c :: r) with
    | none => rfl
    | some t =>
      have ht := nextL_len _ _ hn
      simp only
      rw [lexGo_fuel f _ _ (by rw [List.length_drop]; omega) F (by rw [List.length_drop]; omega)]
theorem lexGo_ne : ∀ (f p : Nat) (l : List UInt8) (ts : List Tok), lexGo f p l = .good ts → ts ≠ [] := by
  intro f
  cases f with
  | zero => intro p l ts h; cases h
  | succ f =>
    intro p l ts h
    rw [lexGo_NB] at h
    cases he : l.drop (blankGo false l) with
    | nil => rw [he] at h; simp only [lexNB, LexR.good.injEq] at h; rw [← h]; simp
    | cons c r =>
      rw [he] at h
      simp only [lexNB] at h
      cases hn : nextL (c :: r) with
      | none => rw [hn] at h; cases h
      | some t =>
        rw [hn] at h
        simp only at h
        cases hg : lexGo f (p + blankGo false l + t.len) ((c :: r).drop t.len) with
        | bad q => rw [hg] at h; cases h
        | good us => rw [hg] at h; simp only [LexR.put, LexR.good.injEq] at h; rw [← h]; simp

/-- what follows a text whose tokens are known -/
def joined (x y : LexR) : LexR :=
  match x with
  | .bad q => .bad q
  | .good ts => y.puts ts.dropLast
theorem joined_put (t : Tok) (x y : LexR) (h : ∀ ts, x = .good ts → ts ≠ []) : joined (x.put t) y = (joined x y).put t := by
  cases x with
  | bad q => rfl
  | good ts =>
    have := h ts rfl
    cases ts with
    | nil => exact absurd rfl this
    | cons u us => cases y <;> simp [joined, LexR.put, LexR.puts]

theorem lexGo_join (t : List UInt8) : ∀ (f p : Nat) (l : List UInt8), l.length < f → ∀ F, (l ++ 10 :: t).length < F →
    lexGo F p (l ++ 10 :: t) = joined (lexGo f p l) (lexGo (t.length + 1) (p + l.length + 1) t) := by
  intro f
  induction f with
  | zero => intro p l h; omega
  | succ f ih =>
    intro p l h F hF
    simp only [List.length_append, List.length_cons] at hF
    cases F with
    | zero => omega
    | succ F =>
      have hb := blankGo_len l false
      have hbj := blank_join t l false
      have hbt := blankGo_len t false
      rw [lexGo_NB, lexGo_NB]
      by_cases hl : blankGo false l = l.length
      · have hbj := hbj.1 hl
        rw [hbj, hl, List.drop_length]
        have hd : (l ++ 10 :: t).drop (l.length + 1 + blankGo false t) = t.drop (blankGo false t) := by
          rw [Nat.add_assoc, List.drop_append, List.drop_eq_nil_of_le (by omega), List.nil_append]
          rw [show l.length + (1 + blankGo false t) - l.length = blankGo false t + 1 by omega]
          rfl
        rw [hd]
        have e : lexNB f (p + l.length) [] = .good [⟨0, [], 0, p + l.length⟩] := rfl
        rw [e]
        simp only [joined, List.dropLast_singleton, puts_nil]
        rw [lexGo_NB, lexNB_fuel F t.length _ _ (by rw [List.length_drop]; omega) (by rw [List.length_drop]; omega)]
        congr 1
        omega
      · have hbj := hbj.2 hl
        rw [hbj]
        have hd : (l ++ 10 :: t).drop (blankGo false l) = l.drop (blankGo false l) ++ 10 :: t := by
          rw [List.drop_append_of_le_length hb]
        rw [hd]
        cases he : l.drop (blankGo false l) with
        | nil =>
          have := congrArg List.length he
          simp at this; omega
        | cons c r =>
          have hlen : (c :: r).length = l.length - blankGo false l := by rw [← he]; simp
          have hnj := nextL_join t c r
          rw [List.cons_append] at hnj ⊢
          simp only [lexNB, hnj]
          cases hn : nextL (c :: r) with
          | none => rfl
          | some k =>
            have ht := nextL_len _ _ hn
            simp only
            have hd2 : (c :: (r ++ 10 :: t)).drop k.len = (c :: r).drop k.len ++ 10 :: t := by
              rw [← List.cons_append, List.drop_append_of_le_length ht.2]
            rw [hd2, ih _ _ (by rw [List.length_drop]; omega) F (by have h1 := hlen; have h2 := ht.1; simp only [List.length_append, List.length_drop, List.length_cons] at h1 ⊢; omega), joined_put _ _ _ (fun ts hts => lexGo_ne _ _ _ _ hts)]
            congr 3
            rw [List.length_drop]; omega

/-- a token further on -/
def Tok.shift (d : Nat) (t : Tok) : Tok := { t with pos := t.pos + d }
def LexR.shift (d : Nat) : LexR → LexR
  | .bad q => .bad (q + d)
  | .good ts => .good (ts.map (Tok.shift d))
theorem lexGo_shift (d : Nat) : ∀ (f p : Nat) (l : List UInt8), lexGo f (p + d) l = (lexGo f p l).shift d := by
  intro f
  induction f with
  | zero => intro p l; rfl
  | succ f ih =>
    intro p l
    rw [lexGo_NB, lexGo_NB]
    cases he : l.drop (blankGo false l) with
    | nil => simp [lexNB, LexR.shift, Tok.shift]; omega
    | cons c r =>
      simp only [lexNB]
      cases hn : nextL (c :: r) with
      | none => simp [LexR.shift]; omega
      | some k =>
        simp only
        rw [show p + d + blankGo false l + k.len = (p + blankGo false l + k.len) + d by omega, ih]
        cases lexGo f (p + blankGo false l + k.len) ((c :: r).drop k.len) with
        | bad q => rfl
        | good ts => simp [LexR.shift, LexR.put, Tok.shift]; omega

/-- THE PLAIN LAW -/
theorem lexL_join (s t : List UInt8) : lexL (s ++ 10 :: t) = joined (lexL s) ((lexL t).shift (s.length + 1)) := by
  unfold lexL
  rw [lexGo_join t (s.length + 1) 0 s (by omega) _ (by omega)]
  have := lexGo_shift (s.length + 1) (t.length + 1) 0 t
  rw [← this]
  congr 2

theorem lexGo_pos : ∀ (f p : Nat) (l : List UInt8) (ts : List Tok), lexGo f p l = .good ts → ∀ t ∈ ts, p ≤ t.pos ∧ t.pos ≤ p + l.length := by
  intro f
  induction f with
  | zero => intro p l ts h; cases h
  | succ f ih =>
    intro p l ts h
    have hb := blankGo_len l false
    rw [lexGo_NB] at h
    cases he : l.drop (blankGo false l) with
    | nil =>
      rw [he] at h
      simp only [lexNB, LexR.good.injEq] at h
      subst h
      intro t ht
      simp only [List.mem_singleton] at ht
      subst ht
      simp only
      omega
    | cons c r =>
      have hlen : (c :: r).length = l.length - blankGo false l := by rw [← he]; simp
      rw [he] at h
      simp only [lexNB] at h
      cases hn : nextL (c :: r) with
      | none => rw [hn] at h; cases h
      | some k =>
        have hk := nextL_len _ _ hn
        rw [hn] at h
        simp only at h
        cases hg : lexGo f (p + blankGo false l + k.len) ((c :: r).drop k.len) with
        | bad q => rw [hg] at h; cases h
        | good us =>
          rw [hg] at h
          simp only [LexR.put, LexR.good.injEq] at h
          subst h
          intro t ht
          rcases List.mem_cons.1 ht with rfl | ht
          · simp only; simp only [List.length_cons] at hlen; omega
          · have := ih _ _ _ hg t ht
            rw [List.length_drop] at this
            omega
theorem lexL_pos (l : List UInt8) (ts : List Tok) (h : lexL l = .good ts) : ∀ t ∈ ts, t.pos ≤ l.length := fun t ht => by
  have := lexGo_pos _ _ _ _ h t ht
  omega
theorem lexGo_count : ∀ (f p : Nat) (l : List UInt8) (ts : List Tok), lexGo f p l = .good ts → ts.length ≤ l.length + 1 := by
  intro f
  induction f with
  | zero => intro p l ts h; cases h
  | succ f ih =>
    intro p l ts h
    have hb := blankGo_len l false
    rw [lexGo_NB] at h
    cases he : l.drop (blankGo false l) with
    | nil =>
      rw [he] at h
      simp only [lexNB, LexR.good.injEq] at h
      subst h
      simp
    | cons c r =>
      have hlen : (c :: r).length = l.length - blankGo false l := by rw [← he]; simp
      rw [he] at h
      simp only [lexNB] at h
      cases hn : nextL (c :: r) with
      | none => rw [hn] at h; cases h
      | some k =>
        have hk := nextL_len _ _ hn
        rw [hn] at h
        simp only at h
        cases hg : lexGo f (p + blankGo false l + k.len) ((c :: r).drop k.len) with
        | bad q => rw [hg] at h; cases h
        | good us =>
          rw [hg] at h
          simp only [LexR.put, LexR.good.injEq] at h
          subst h
          have := ih _ _ _ hg
          rw [List.length_drop] at this
          simp only [List.length_cons] at hlen hk this ⊢
          omega
theorem lexL_count (l : List UInt8) (ts : List Tok) (h : lexL l = .good ts) : 1 ≤ ts.length ∧ ts.length ≤ l.length + 1 :=
  ⟨List.length_pos_iff.2 (lexGo_ne _ _ _ _ h), lexGo_count _ _ _ _ h⟩
theorem lexGo_bad : ∀ (f p : Nat) (l : List UInt8) (q : Nat), l.length < f → lexGo f p l = .bad q → q ≤ p + l.length := by
  intro f
  induction f with
  | zero => intro p l q hf; omega
  | succ f ih =>
    intro p l q hf h
    have hb := blankGo_len l false
    rw [lexGo_NB] at h
    cases he : l.drop (blankGo false l) with
    | nil => rw [he] at h; cases h
    | cons c r =>
      have hlen : (c :: r).length = l.length - blankGo false l := by rw [← he]; simp
      rw [he] at h
      simp only [lexNB] at h
      cases hn : nextL (c :: r) with
      | none => rw [hn] at h; simp only [LexR.bad.injEq] at h; omega
      | some k =>
        have hk := nextL_len _ _ hn
        rw [hn] at h
        simp only at h
        cases hg : lexGo f (p + blankGo false l + k.len) ((c :: r).drop k.len) with
        | good us => rw [hg] at h; cases h
        | bad q' =>
          rw [hg] at h
          simp only [LexR.put, LexR.bad.injEq] at h
          have := ih _ _ _ (by rw [List.length_drop]; omega) hg
          rw [List.length_drop] at this
          omega
theorem lexL_bad (l : List UInt8) (q : Nat) (h : lexL l = .bad q) : q ≤ l.length := by
  have := lexGo_bad _ _ _ _ (by omega) h
  omega
end LexP
