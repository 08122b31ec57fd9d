/- Strings that are written and read again, plain. -/
import Derived.Test.YthmhbhlkbihdbaaD0
namespace LexP

/-- how a byte is written in a string -/
def esc1 (c : UInt8) : List UInt8 :=
  if (c.toNat : Int) == 10 then [92, 110] else if (c.toNat : Int) == 34 || (c.toNat : Int) == 92 then [92, c]
  else if decide ((c.toNat : Int) < 32) || decide (126 < (c.toNat : Int)) then [120] else [c]
/-- what is read again -/
def want1 (c : UInt8) : UInt8 :=
  if (c.toNat : Int) == 10 then c else if (c.toNat : Int) == 34 || (c.toNat : Int) == 92 then c
  else if decide ((c.toNat : Int) < 32) || decide (126 < (c.toNat : Int)) then 120 else c
def escL (b : List UInt8) : List UInt8 := b.flatMap esc1
theorem escL_snoc (b : List UInt8) (c : UInt8) : escL (b ++ [c]) = escL b ++ esc1 c := by simp [escL]
theorem esc1_len (c : UInt8) : 1 ≤ (esc1 c).length ∧ (esc1 c).length ≤ 2 := by
  unfold esc1; split
  · simp
  · split
    · simp
    · split <;> simp
theorem escL_len (b : List UInt8) : (escL b).length ≤ 2 * b.length := by
  induction b with
  | nil => simp [escL]
  | cons c r ih =>
    have := esc1_len c
    simp only [escL, List.flatMap_cons, List.length_append, List.length_cons] at ih ⊢
    omega

theorem quote_one (acc : List UInt8) (c : UInt8) (rest : List UInt8) (h : acc.length ≤ 100) :
    quoteGo acc (esc1 c ++ rest) = (quoteGo (acc ++ [want1 c]) rest).map fun x => (x.1, x.2 + (esc1 c).length) := by
  have hd : decide (100 < acc.length) = false := by simp; omega
  unfold esc1 want1
  by_cases h10 : ((c.toNat : Int) == 10) = true
  · rw [if_pos h10, if_pos h10]
    have : c = 10 := by
      apply UInt8.toNat_inj.1; simp at h10; simpa using (by omega : c.toNat = 10)
    subst this
    simp only [List.cons_append, List.nil_append]
    rw [quoteGo_esc acc 92 rest hd (by rfl) (by rfl) (by rfl) 110]
    rfl
  rw [if_neg h10, if_neg h10]
  by_cases hq : ((c.toNat : Int) == 34 || (c.toNat : Int) == 92) = true
  · rw [if_pos hq, if_pos hq]
    simp only [List.cons_append, List.nil_append]
    rw [quoteGo_esc acc 92 rest hd (by rfl) (by rfl) (by rfl) c, if_neg, if_pos hq]
    · rfl
    · simp at hq ⊢; omega
  rw [if_neg hq, if_neg hq]
  by_cases hb : (decide ((c.toNat : Int) < 32) || decide (126 < (c.toNat : Int))) = true
  · rw [if_pos hb, if_pos hb]
    simp only [List.cons_append, List.nil_append]
    rw [quoteGo_plain acc 120 rest hd (by rfl) (by rfl) (by rfl)]
    rfl
  · rw [if_neg hb, if_neg hb]
    simp only [Bool.or_eq_true, not_or, Bool.not_eq_true] at hq hb
    simp only [List.cons_append, List.nil_append]
    rw [quoteGo_plain acc c rest hd hq.1 (by rw [hb.1, hb.2]; rfl) hq.2]
    rfl
theorem esc1_head (c : UInt8) (rest : List UInt8) (acc : List UInt8) (h : 100 < acc.length) : quoteGo acc (esc1 c ++ rest) = none := by
  have hl := esc1_len c
  cases he : esc1 c with
  | nil => rw [he] at hl; simp at hl
  | cons d r => exact quoteGo_long _ _ _ (by simpa using h)

theorem quote_all (b : List UInt8) : ∀ (acc rest : List UInt8), acc.length + b.length ≤ 101 → 
    quoteGo acc (escL b ++ rest) = (quoteGo (acc ++ b.map want1) rest).map fun x => (x.1, x.2 + (escL b).length) := by
  induction b with
  | nil => intro acc rest _; simp [escL]
  | cons c r ih =>
    intro acc rest h
    have he : escL (c :: r) = esc1 c ++ escL r := by simp [escL]
    rw [he, List.append_assoc, quote_one acc c _ (by simp at h; omega), ih _ _ (by simp at h ⊢; omega)]
    rw [List.map_cons, List.append_assoc, List.singleton_append]
    cases quoteGo (acc ++ want1 c :: r.map want1) rest with
    | none => rfl
    | some x => simp; omega
theorem quote_long (b : List UInt8) : ∀ (acc rest : List UInt8), 100 < acc.length + b.length → b ≠ [] ∨ 100 < acc.length ∧ rest ≠ [] → quoteGo acc (escL b ++ rest) = none ∨ acc.length ≤ 100 := by
  intro acc rest h hb
  by_cases ha : 100 < acc.length
  · left
    cases b with
    | nil =>
      rcases hb with hb | hb
      · exact absurd rfl hb
      · cases rest with
        | nil => exact absurd rfl hb.2
        | cons d r => simp only [escL, List.flatMap_nil, List.nil_append]; exact quoteGo_long _ _ _ (by simpa using ha)
    | cons c r =>
      have he : escL (c :: r) = esc1 c ++ escL r := by simp [escL]
      rw [he, List.append_assoc]; exact esc1_head _ _ _ ha
  · right; omega
/-- more than there may be: none -/
theorem quote_many (b : List UInt8) (rest : List UInt8) (h : 100 < b.length) (hr : rest ≠ []) : quoteGo [] (escL b ++ rest) = none := by
  have he : escL b = escL (b.take 101) ++ escL (b.drop 101) := by
    rw [escL, escL, escL, ← List.flatMap_append, List.take_append_drop]
  have hl : (b.take 101).length = 101 := by simp; omega
  rw [he, List.append_assoc, quote_all _ [] _ (by rw [hl]; simp)]
  have hn : quoteGo ([] ++ (b.take 101).map want1) (escL (b.drop 101) ++ rest) = none := by
    rcases quote_long (b.drop 101) ([] ++ (b.take 101).map want1) rest (by simp; omega) (by
      by_cases h0 : b.drop 101 = []
      · exact .inr ⟨by simp; omega, hr⟩
      · exact .inl h0) with h1 | h1
    · exact h1
    · simp at h1; omega
  rw [hn]; rfl
theorem quote_done (b : List UInt8) (h : b.length ≤ 100) : quoteGo [] (escL b ++ [34]) = some (b.map want1, (escL b).length + 1) := by
  rw [quote_all b [] [34] (by simp; omega), List.nil_append, quoteGo_quote _ 34 [] (by simp; omega) (by rfl)]
  simp; omega
theorem quote_open (b : List UInt8) (h : b.length ≤ 100) : quoteGo [] (escL b) = none := by
  have := quote_all b [] [] (by simp; omega)
  rw [List.append_nil] at this
  rw [this]; rfl

theorem nextL_quote (r : List UInt8) : nextL (34 :: r) = (quoteGo [] r).map fun x => ⟨4, x.2 + 1, x.1, 0⟩ := by rfl
theorem lex_string (b : List UInt8) (h : b.length ≤ 100) : lexTop' (34 :: escL b ++ [34]) = some (.good [⟨4, b.map want1, 0, 0⟩, ⟨0, [], 0, (escL b).length + 2⟩]) := by
  have hl := escL_len b
  have hx : nextL (34 :: (escL b ++ [34])) = some ⟨4, (escL b).length + 2, b.map want1, 0⟩ := by rw [nextL_quote, quote_done b h]; rfl
  rw [List.cons_append, lexTop', if_neg (by simp; omega), lexL_start _ _ (by rfl) (by rfl)]
  simp only [lexNB, hx]
  have hdr : (34 :: (escL b ++ [34])).drop ((escL b).length + 2) = [] := by apply List.drop_eq_nil_of_le; simp
  rw [hdr]
  have : (escL b ++ [34]).length + 1 = ((escL b).length + 1) + 1 := by simp
  rw [this, lexGo_NB]
  simp [blankGo, lexNB, LexR.put]
theorem lex_string_many (b : List UInt8) (h : 100 < b.length) (h2 : b.length ≤ 200) : lexTop' (34 :: escL b ++ [34]) = some (.bad 0) := by
  have hl := escL_len b
  have hx : nextL (34 :: (escL b ++ [34])) = none := by rw [nextL_quote, quote_many b [34] h (by simp)]; rfl
  rw [List.cons_append, lexTop', if_neg (by simp; omega), lexL_start _ _ (by rfl) (by rfl)]
  simp only [lexNB, hx]
theorem lex_string_open (b : List UInt8) (h : b.length ≤ 100) : lexTop' (34 :: escL b) = some (.bad 0) := by
  have hl := escL_len b
  have hx : nextL (34 :: escL b) = none := by rw [nextL_quote, quote_open b h]; rfl
  rw [lexTop', if_neg (by simp; omega), lexL_start _ _ (by rfl) (by rfl)]
  simp only [lexNB, hx]
end LexP
