/- A stable sort, in plain words. -/
import Derived.ProofKit
namespace KindsP

section
variable {α : Type}
/-- two rows made one, those of the first ahead of their likes -/
def mrg (lt : α → α → Bool) : List α → List α → List α
  | [], ys => ys
  | x :: xs, [] => x :: xs
  | x :: xs, y :: ys => if lt y x = true then y :: mrg lt (x :: xs) ys else x :: mrg lt xs (y :: ys)
termination_by xs ys => xs.length + ys.length
/-- elements put in, one behind the other -/
def insAll (lt : α → α → Bool) : List α → List α → List α
  | s, [] => s
  | s, x :: l => insAll lt (mrg lt s [x]) l
def isort (lt : α → α → Bool) (l : List α) : List α := insAll lt [] l
/-- in order: none is less than one ahead of it -/
def Srt (lt : α → α → Bool) (l : List α) : Prop := l.Pairwise (fun a b => lt b a = false)
structure Weak (lt : α → α → Bool) : Prop where
  irr : ∀ x, lt x x = false
  tr : ∀ x y z, lt x y = true → lt y z = true → lt x z = true
  co : ∀ x y z, lt x z = true → lt x y = true ∨ lt y z = true

theorem mrg_nil (lt : α → α → Bool) (l : List α) : mrg lt l [] = l := by
  cases l with
  | nil => rw [mrg]
  | cons x xs => rw [mrg]
theorem mrg_len (lt : α → α → Bool) : ∀ (n : Nat) (a b : List α), a.length + b.length ≤ n → (mrg lt a b).length = a.length + b.length
  | 0, a, b, h => by
    obtain rfl : a = [] := List.length_eq_zero_iff.1 (by omega)
    rw [mrg]; simp
  | n + 1, [], b, h => by rw [mrg]; simp
  | n + 1, x :: xs, [], h => by rw [mrg]; simp
  | n + 1, x :: xs, y :: ys, h => by
    simp only [List.length_cons] at h
    rw [mrg]
    split
    · rw [List.length_cons, mrg_len lt n _ _ (by simp only [List.length_cons]; omega)]; simp only [List.length_cons]; omega
    · rw [List.length_cons, mrg_len lt n _ _ (by simp only [List.length_cons]; omega)]; simp only [List.length_cons]; omega
theorem mrg_length (lt : α → α → Bool) (a b : List α) : (mrg lt a b).length = a.length + b.length := mrg_len lt _ a b (Nat.le_refl _)
theorem mrg_mem (lt : α → α → Bool) : ∀ (n : Nat) (a b : List α), a.length + b.length ≤ n → ∀ z, z ∈ mrg lt a b ↔ z ∈ a ∨ z ∈ b
  | 0, a, b, h => by
    obtain rfl : a = [] := List.length_eq_zero_iff.1 (by omega)
    rw [mrg]; simp
  | n + 1, [], b, h => by rw [mrg]; simp
  | n + 1, x :: xs, [], h => by rw [mrg]; simp
  | n + 1, x :: xs, y :: ys, h => by
    simp only [List.length_cons] at h
    intro z
    rw [mrg]
    split
    · rw [List.mem_cons, mrg_mem lt n _ _ (by simp only [List.length_cons]; omega) z]
      simp only [List.mem_cons]
      constructor
      · rintro (h | h | h) <;> simp [h]
      · rintro (h | h) <;> rcases h with h | h <;> simp [h]
    · rw [List.mem_cons, mrg_mem lt n _ _ (by simp only [List.length_cons]; omega) z]
      simp only [List.mem_cons]
      constructor
      · rintro (h | h | h)
        · simp [h]
        · simp [h]
        · rcases h with h | h <;> simp [h]
      · rintro (h | h) <;> rcases h with h | h <;> simp [h]
theorem mem_mrg {lt : α → α → Bool} {a b : List α} {z : α} : z ∈ mrg lt a b ↔ z ∈ a ∨ z ∈ b := mrg_mem lt _ a b (Nat.le_refl _) z
/-- two rows that part alike are made one part by part -/
theorem mrg_parts (lt : α → α → Bool) : ∀ (n : Nat) (a1 b1 a2 b2 : List α), a1.length + b1.length ≤ n → (∀ x ∈ a1, ∀ y ∈ b2, lt y x = false) → (∀ y ∈ b1, ∀ x ∈ a2, lt y x = true) → mrg lt (a1 ++ a2) (b1 ++ b2) = mrg lt a1 b1 ++ mrg lt a2 b2
  | n, [], [], a2, b2, _, _, _ => by
    show mrg lt a2 b2 = mrg lt [] [] ++ mrg lt a2 b2
    rw [show mrg lt ([] : List α) [] = [] by rw [mrg]]; rfl
  | 0, x :: xs, b1, a2, b2, h, _, _ => by simp at h
  | 0, [], y :: ys, a2, b2, h, _, _ => by simp at h
  | n + 1, [], y :: ys, [], b2, h, h1, h2 => by
    rw [show mrg lt ([] : List α) (y :: ys) = y :: ys by rw [mrg], show mrg lt ([] : List α) b2 = b2 by rw [mrg]]
    show mrg lt [] _ = _
    rw [mrg]
  | n + 1, [], y :: ys, x :: a2, b2, h, h1, h2 => by
    have ih := mrg_parts lt n [] ys (x :: a2) b2 (by simp only [List.length_cons, List.length_nil] at h ⊢; omega) (by simp) (fun y hy => h2 y (List.mem_cons_of_mem _ hy))
    rw [show mrg lt ([] : List α) (y :: ys) = y :: ys by rw [mrg]]
    rw [show mrg lt ([] : List α) ys = ys by rw [mrg]] at ih
    show mrg lt (x :: a2) (y :: (ys ++ b2)) = _
    rw [mrg, if_pos (h2 y (List.mem_cons_self ..) x (List.mem_cons_self ..))]
    show y :: mrg lt ([] ++ x :: a2) (ys ++ b2) = _
    rw [ih]; rfl
  | n + 1, x :: xs, [], a2, [], h, h1, h2 => by
    show mrg lt ((x :: xs) ++ a2) [] = mrg lt (x :: xs) [] ++ mrg lt a2 []
    rw [mrg_nil, mrg_nil, mrg_nil]
  | n + 1, x :: xs, [], a2, y :: b2, h, h1, h2 => by
    have ih := mrg_parts lt n xs [] a2 (y :: b2) (by simp only [List.length_cons, List.length_nil] at h ⊢; omega) (fun x hx => h1 x (List.mem_cons_of_mem _ hx)) (by simp)
    rw [mrg_nil] at ih
    rw [mrg_nil]
    show mrg lt (x :: (xs ++ a2)) (y :: b2) = _
    rw [mrg, if_neg (by rw [h1 x (List.mem_cons_self ..) y (List.mem_cons_self ..)]; simp)]
    show x :: mrg lt (xs ++ a2) ([] ++ y :: b2) = _
    rw [ih]; rfl
  | n + 1, x :: xs, y :: ys, a2, b2, h, h1, h2 => by
    simp only [List.length_cons] at h
    show mrg lt (x :: (xs ++ a2)) (y :: (ys ++ b2)) = _
    rw [mrg, mrg]
    split
    · have ih := mrg_parts lt n (x :: xs) ys a2 b2 (by simp only [List.length_cons]; omega) h1 (fun y hy => h2 y (List.mem_cons_of_mem _ hy))
      show y :: mrg lt ((x :: xs) ++ a2) (ys ++ b2) = _
      rw [ih]; rfl
    · have ih := mrg_parts lt n xs (y :: ys) a2 b2 (by simp only [List.length_cons]; omega) (fun x hx => h1 x (List.mem_cons_of_mem _ hx)) h2
      show x :: mrg lt (xs ++ a2) ((y :: ys) ++ b2) = _
      rw [ih]; rfl
theorem mrg_part {lt : α → α → Bool} (a1 b1 a2 b2 : List α) (h1 : ∀ x ∈ a1, ∀ y ∈ b2, lt y x = false) (h2 : ∀ y ∈ b1, ∀ x ∈ a2, lt y x = true) : mrg lt (a1 ++ a2) (b1 ++ b2) = mrg lt a1 b1 ++ mrg lt a2 b2 := mrg_parts lt _ a1 b1 a2 b2 (Nat.le_refl _) h1 h2
/-- one element from behind -/
theorem mrg_back {lt : α → α → Bool} (s1 s2 : List α) (x : α) (h1 : ∀ s ∈ s1, lt x s = false) (h2 : ∀ s ∈ s2, lt x s = true) : mrg lt (s1 ++ s2) [x] = s1 ++ x :: s2 := by
  have := mrg_part (lt := lt) s1 [] s2 [x] (fun s hs y hy => by rw [List.mem_singleton.1 hy]; exact h1 s hs) (by simp)
  rw [List.nil_append] at this
  rw [this, mrg_nil]
  cases s2 with
  | nil => rw [mrg]
  | cons s s2 => rw [mrg, if_pos (h2 s (List.mem_cons_self ..)), mrg_nil]
/-- one element from ahead -/
theorem mrg_front {lt : α → α → Bool} (b1 b2 : List α) (x : α) (h1 : ∀ y ∈ b1, lt y x = true) (h2 : ∀ y ∈ b2, lt y x = false) : mrg lt [x] (b1 ++ b2) = b1 ++ x :: b2 := by
  have := mrg_part (lt := lt) [] b1 [x] b2 (by simp) (fun y hy z hz => by rw [List.mem_singleton.1 hz]; exact h1 y hy)
  rw [List.nil_append] at this
  rw [this, show mrg lt [] b1 = b1 by rw [mrg]]
  cases b2 with
  | nil => rw [mrg]
  | cons y b2 => rw [mrg, if_neg (by rw [h2 y (List.mem_cons_self ..)]; simp), show mrg lt [] (y :: b2) = y :: b2 by rw [mrg]]
theorem mrg_snocs (lt : α → α → Bool) (hw : Weak lt) (x : α) : ∀ (n : Nat) (p q : List α), p.length + q.length ≤ n → mrg lt (mrg lt p q) [x] = mrg lt p (mrg lt q [x])
  | n, [], q, _ => by rw [show mrg lt [] q = q by rw [mrg], show mrg lt [] (mrg lt q [x]) = mrg lt q [x] by rw [mrg]]
  | n, p :: ps, [], _ => by rw [mrg_nil, show mrg lt [] [x] = [x] by rw [mrg]]
  | 0, p :: ps, q :: qs, h => by simp at h
  | n + 1, p :: ps, q :: qs, h => by
    simp only [List.length_cons] at h
    have e1 : mrg lt (p :: ps) (q :: qs) = if lt q p = true then q :: mrg lt (p :: ps) qs else p :: mrg lt ps (q :: qs) := by rw [mrg]
    have e2 : mrg lt (q :: qs) [x] = if lt x q = true then x :: q :: qs else q :: mrg lt qs [x] := by rw [mrg, mrg_nil]
    by_cases hqp : lt q p = true
    · rw [e1, if_pos hqp]
      have e3 : mrg lt (q :: mrg lt (p :: ps) qs) [x] = if lt x q = true then x :: q :: mrg lt (p :: ps) qs else q :: mrg lt (mrg lt (p :: ps) qs) [x] := by rw [mrg, mrg_nil]
      rw [e3, e2]
      by_cases hxq : lt x q = true
      · rw [if_pos hxq, if_pos hxq]
        have : mrg lt (p :: ps) (x :: q :: qs) = x :: mrg lt (p :: ps) (q :: qs) := by rw [mrg, if_pos (hw.tr x q p hxq hqp)]
        rw [this, e1, if_pos hqp]
      · rw [if_neg hxq, if_neg hxq, mrg_snocs lt hw x n (p :: ps) qs (by simp only [List.length_cons]; omega)]
        have : mrg lt (p :: ps) (q :: mrg lt qs [x]) = q :: mrg lt (p :: ps) (mrg lt qs [x]) := by rw [mrg, if_pos hqp]
        rw [this]
    · rw [e1, if_neg hqp]
      have e3 : mrg lt (p :: mrg lt ps (q :: qs)) [x] = if lt x p = true then x :: p :: mrg lt ps (q :: qs) else p :: mrg lt (mrg lt ps (q :: qs)) [x] := by rw [mrg, mrg_nil]
      rw [e3]
      by_cases hxp : lt x p = true
      · have hxq : lt x q = true := by
          rcases hw.co x q p hxp with h | h
          · exact h
          · exact absurd h hqp
        rw [if_pos hxp, e2, if_pos hxq]
        have : mrg lt (p :: ps) (x :: q :: qs) = x :: mrg lt (p :: ps) (q :: qs) := by rw [mrg, if_pos hxp]
        rw [this, e1, if_neg hqp]
      · rw [if_neg hxp, mrg_snocs lt hw x n ps (q :: qs) (by simp only [List.length_cons]; omega), e2]
        by_cases hxq : lt x q = true
        · rw [if_pos hxq]
          have : mrg lt (p :: ps) (x :: q :: qs) = p :: mrg lt ps (x :: q :: qs) := by rw [mrg, if_neg hxp]
          rw [this]
        · rw [if_neg hxq]
          have : mrg lt (p :: ps) (q :: mrg lt qs [x]) = p :: mrg lt ps (q :: mrg lt qs [x]) := by rw [mrg, if_neg hqp]
          rw [this]
theorem insAll_mrg (lt : α → α → Bool) (hw : Weak lt) : ∀ (l p q : List α), insAll lt (mrg lt p q) l = mrg lt p (insAll lt q l)
  | [], _, _ => by rw [insAll, insAll]
  | x :: l, p, q => by rw [insAll, insAll, mrg_snocs lt hw x _ p q (Nat.le_refl _), insAll_mrg lt hw l]
theorem insAll_append (lt : α → α → Bool) : ∀ (a b s : List α), insAll lt s (a ++ b) = insAll lt (insAll lt s a) b
  | [], b, s => by rw [insAll]; rfl
  | x :: a, b, s => by show insAll lt s (x :: (a ++ b)) = _; rw [insAll, insAll, insAll_append lt a b]
theorem isort_append (lt : α → α → Bool) (hw : Weak lt) (a b : List α) : isort lt (a ++ b) = mrg lt (isort lt a) (isort lt b) := by
  unfold isort
  rw [insAll_append, ← insAll_mrg lt hw b, mrg_nil]
theorem isort_snoc (lt : α → α → Bool) (a : List α) (x : α) : isort lt (a ++ [x]) = mrg lt (isort lt a) [x] := by
  unfold isort
  rw [insAll_append, insAll, insAll]
theorem mrg_srts (lt : α → α → Bool) (hw : Weak lt) : ∀ (n : Nat) (a b : List α), a.length + b.length ≤ n → Srt lt a → Srt lt b → Srt lt (mrg lt a b)
  | n, [], b, _, _, hb => by rw [mrg]; exact hb
  | n, x :: xs, [], _, ha, _ => by rw [mrg]; exact ha
  | 0, x :: xs, y :: ys, h, _, _ => by simp at h
  | n + 1, x :: xs, y :: ys, h, ha, hb => by
    simp only [List.length_cons] at h
    obtain ⟨ha1, ha2⟩ := List.pairwise_cons.1 ha
    obtain ⟨hb1, hb2⟩ := List.pairwise_cons.1 hb
    rw [mrg]
    split
    · next hyx =>
      refine List.pairwise_cons.2 ⟨fun z hz => ?_, mrg_srts lt hw n _ _ (by simp only [List.length_cons]; omega) ha hb2⟩
      rcases mem_mrg.1 hz with hz | hz
      · cases hzy : lt z y with
        | false => rfl
        | true =>
          have hzx := hw.tr z y x hzy hyx
          rcases List.mem_cons.1 hz with rfl | hz
          · rw [hw.irr] at hzx; cases hzx
          · rw [ha1 z hz] at hzx; cases hzx
      · exact hb1 z hz
    · next hyx =>
      refine List.pairwise_cons.2 ⟨fun z hz => ?_, mrg_srts lt hw n _ _ (by simp only [List.length_cons]; omega) ha2 hb⟩
      rcases mem_mrg.1 hz with hz | hz
      · exact ha1 z hz
      · rcases List.mem_cons.1 hz with rfl | hz
        · simpa using hyx
        · cases hzx : lt z x with
          | false => rfl
          | true =>
            rcases hw.co z y x hzx with h | h
            · rw [hb1 z hz] at h; cases h
            · exact absurd h hyx
theorem mrg_srt {lt : α → α → Bool} (hw : Weak lt) {a b : List α} (ha : Srt lt a) (hb : Srt lt b) : Srt lt (mrg lt a b) := mrg_srts lt hw _ a b (Nat.le_refl _) ha hb
theorem insAll_srt {lt : α → α → Bool} (hw : Weak lt) : ∀ (l s : List α), Srt lt s → Srt lt (insAll lt s l)
  | [], s, h => by rw [insAll]; exact h
  | x :: l, s, h => by rw [insAll]; exact insAll_srt hw l _ (mrg_srt hw h (List.pairwise_singleton _ _))
theorem isort_srt {lt : α → α → Bool} (hw : Weak lt) (l : List α) : Srt lt (isort lt l) := insAll_srt hw l [] List.Pairwise.nil
theorem insAll_length (lt : α → α → Bool) : ∀ (l s : List α), (insAll lt s l).length = s.length + l.length
  | [], s => by rw [insAll]; simp
  | x :: l, s => by rw [insAll, insAll_length lt l, mrg_length]; simp; omega
theorem isort_length (lt : α → α → Bool) (l : List α) : (isort lt l).length = l.length := by unfold isort; rw [insAll_length]; simp
end
end KindsP
