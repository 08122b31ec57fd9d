/- Plain facts of the lexer's answers: lengths, and one token after the other. -/
import Derived.Test.YthmhbhlkbihdbaaA0
namespace LexP

theorem wrun_len (l : List UInt8) : wrun l ≤ l.length := by
  induction l with
  | nil => simp [wrun]
  | cons c r ih => rw [wrun]; split <;> simp <;> omega
theorem wrun_pos (c : UInt8) (r : List UInt8) (h : wordC c = true) : 1 ≤ wrun (c :: r) := by
  rw [wrun, if_pos h]; omega

theorem blankGo_len (l : List UInt8) : ∀ b, blankGo b l ≤ l.length := by
  induction l with
  | nil => intro b; cases b <;> simp [blankGo]
  | cons c r ih =>
    intro b
    have h1 := ih true
    have h2 := ih false
    cases b
    · rw [blankGo]; split
      · simp; omega
      · split
        · simp; omega
        · simp
    · rw [blankGo]; split <;> simp <;> omega

theorem quoteGo_len : ∀ (m : Nat) (l : List UInt8), l.length ≤ m → ∀ (b : List UInt8) x, quoteGo b l = some x → 1 ≤ x.2 ∧ x.2 ≤ l.length := by
  intro m
  induction m with
  | zero =>
    intro l hl b x h
    have : l = [] := List.length_eq_zero_iff.1 (by omega)
    subst this
    cases h
  | succ m ih =>
    intro l hl b x h
    cases l with
    | nil => cases h
    | cons c r =>
      by_cases h1 : decide (100 < b.length) = true
      · rw [quoteGo_long _ _ _ h1] at h; cases h
      have h1 : decide (100 < b.length) = false := by simpa using h1
      by_cases h2 : ((c.toNat : Int) == 34) = true
      · rw [quoteGo_quote _ _ _ h1 h2] at h
        simp only [Option.some.injEq] at h; subst h; simp
      have h2 : ((c.toNat : Int) == 34) = false := by simpa using h2
      by_cases h3 : (decide ((c.toNat : Int) < 32) || decide (126 < (c.toNat : Int))) = true
      · rw [quoteGo_bad _ _ _ h1 h2 h3] at h; cases h
      have h3 : (decide ((c.toNat : Int) < 32) || decide (126 < (c.toNat : Int))) = false := by simpa using h3
      have step : ∀ (b' : List UInt8) (r' : List UInt8) (k : Nat), r'.length + k = (c :: r).length → 1 ≤ k → ((quoteGo b' r').map fun x => (x.1, x.2 + k)) = some x → 1 ≤ x.2 ∧ x.2 ≤ (c :: r).length := by
        intro b' r' k hk h1k hm
        rw [Option.map_eq_some_iff] at hm
        obtain ⟨y, hy, hxy⟩ := hm
        have := ih r' (by simp at hl hk; omega) b' y hy
        subst hxy
        simp only
        omega
      by_cases h4 : ((c.toNat : Int) == 92) = true
      · cases r with
        | nil => rw [quoteGo_esc_end _ _ h1 h2 h3 h4] at h; cases h
        | cons d r =>
          rw [quoteGo_esc _ _ _ h1 h2 h3 h4] at h
          split at h
          · exact step _ _ 2 (by simp) (by omega) h
          · split at h
            · exact step _ _ 2 (by simp) (by omega) h
            · cases h
      have h4 : ((c.toNat : Int) == 92) = false := by simpa using h4
      rw [quoteGo_plain _ _ _ h1 h2 h3 h4] at h
      exact step _ _ 1 (by simp) (by omega) h

theorem nextL_len (l : List UInt8) (t : Tk) (h : nextL l = some t) : 1 ≤ t.len ∧ t.len ≤ l.length := by
  cases l with
  | nil => cases h
  | cons c r =>
    have hw := wrun_len (c :: r)
    rw [nextL] at h
    split at h
    · rename_i hc
      have h1 := wrun_pos c r (by simp [wordC, hc])
      split at h
      · simp only [Option.some.injEq] at h; subst h; exact ⟨h1, hw⟩
      · split at h
        · simp only [Option.some.injEq] at h; subst h; exact ⟨h1, hw⟩
        · cases h
    · split at h
      · rename_i hc
        have h1 := wrun_pos c r (by simp [wordC, hc])
        rw [Option.map_eq_some_iff] at h
        obtain ⟨v, _, rfl⟩ := h
        exact ⟨h1, hw⟩
      · split at h
        · rw [Option.map_eq_some_iff] at h
          obtain ⟨x, hx, rfl⟩ := h
          have := quoteGo_len _ _ (Nat.le_refl _) _ _ hx
          simp; omega
        · split at h
          · cases h
          · rename_i hs
            simp only [Option.some.injEq] at h; subst h
            refine ⟨by simp only; omega, ?_⟩
            simp only [signN]
            split
            · rename_i hq; simp only [Bool.and_eq_true, decide_eq_true_eq] at hq; omega
            · split <;> simp

/-- from a place behind blanks on -/
def lexNB (f p : Nat) (l : List UInt8) : LexR :=
  match l with
  | [] => .good [⟨0, [], 0, p⟩]
  | c :: r =>
    match nextL (c :: r) with
    | none => .bad p
    | some t => (lexGo f (p + t.len) ((c :: r).drop t.len)).put ⟨t.kind, t.text, t.n, p⟩
theorem lexGo_NB (f p : Nat) (l : List UInt8) : lexGo (f + 1) p l = lexNB f (p + blankGo false l) (l.drop (blankGo false l)) := rfl
theorem puts_put (ts : List Tok) (t : Tok) (x : LexR) : (x.put t).puts ts = x.puts (ts ++ [t]) := by
  cases x <;> simp [LexR.put, LexR.puts]
theorem puts_nil (x : LexR) : x.puts [] = x := by cases x <;> rfl
end LexP
