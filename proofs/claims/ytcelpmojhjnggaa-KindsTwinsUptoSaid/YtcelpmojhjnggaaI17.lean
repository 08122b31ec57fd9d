/- A stable sort, in plain words. -/
import Derived.ProofKit
import Derived.Test.YtcelpmojhjnggaaI12
import Derived.Test.YtcelpmojhjnggaaI16
namespace KindsP

section
variable {α : Type}
/-- two rows made one, those of the first ahead of their likes -/
def mrg (lt : α → α → Bool) : List α → List α → List α
  | [], ys => ys
  | x :: xs, [] => x :: xs
  | x :: xs, y :: ys => if lt y x = true then y :: mrg lt (x :: xs) ys else x :: mrg lt xs (y :: ys)
termination_by xs ys => xs.length + ys.length
/-- elements put in, one behind the other -/
def insAll (lt : α → α → Bool) : List α → List α → List α
  | s, [] => s
  | s, x :: l => insAll lt (mrg lt s [x]) l
def isort (lt : α → α → Bool) (l : List α) : List α := insAll lt [] l
/-- in order: none is less than one ahead of it -/
def Srt (lt : α → α → Bool) (l : List α) : Prop := l.Pairwise (fun a b => lt b a = false)
structure Weak (lt : α → α → Bool) : Prop where
  irr : ∀ x, lt x x = false
  tr : ∀ x y z, lt x y = true → lt y z = true → lt x z = true
  co : ∀ x y z, lt x z = true → lt x y = true ∨ lt y z = true

theorem mrg_nil (lt : α → α → Bool) (l : List α) : mrg lt l [] = l := by
  cases l with
  | nil => rw [mrg]
  | cons x xs => rw [mrg]
theorem mrg_len (lt : α → α → Bool) : ∀ (n : Nat) (a b : List α), a.length + b.length ≤ n → (mrg lt a b).length = a.length + b.length
  | 0, a, b, h => by
    obtain rfl : a = [] := List.length_eq_zero_iff.1 (by omega)
    rw [mrg]; simp
  | n + 1, [], b, h => by rw [mrg]; simp
  | n + 1, x :: xs, [], h => by rw [mrg]; simp
  | n + 1, x :: xs, y :: ys, h => by
    simp only [List.length_cons] at h
    rw [mrg]
    split
    · rw [List.length_cons, mrg_len lt n _ _ (by simp only [List.length_cons]; omega)]; simp only [List.length_cons]; omega
    · rw [List.length_cons, mrg_len lt n _ _ (by simp only [List.length_cons]; omega)]; simp only [List.length_cons]; omega
theorem mrg_length (lt : α → α → Bool) (a b : List α) : (mrg lt a b).length = a.length + b.length := mrg_len lt _ a b (Nat.le_refl _)
theorem mrg_mem (lt : α → α → Bool) : ∀ (n : Nat) (a b : List α), a.length + b.length ≤ n → ∀ z, z ∈ mrg lt a b ↔ z ∈ a ∨ z ∈ b
  | 0, a, b, h => by
    obtain rfl : a = [] := List.length_eq_zero_iff.1 (by omega)
    rw [mrg]; simp
  | n + 1, [], b, h => by rw [mrg]; simp
  | n + 1, x :: xs, [], h => by rw [mrg]; simp
  | n + 1, x :: xs, y :: ys, h => by
    simp only [List.length_cons] at h
    intro z
    rw [mrg]
    split
    · rw [List.mem_cons, mrg_mem lt n _ _ (by simp only [List.length_cons]; omega) z]
      simp only [List.mem_cons]
      constructor
      · rintro (h | h | h) <;> simp [h]
      · rintro (h | h) <;> rcases h with h | h <;> simp [h]
    · rw [List.mem_cons, mrg_mem lt n _ _ (by simp only [List.length_cons]; omega) z]
      simp only [List.mem_cons]
      constructor
      · rintro (h | h | h)
        · simp [h]
        · simp [h]
        · rcases h with h | h <;> simp [h]
      · rintro (h | h) <;> rcases h with h | h <;> simp [h]
theorem mem_mrg {lt : α → α → Bool} {a b : List α} {z : α} : z ∈ mrg lt a b ↔ z ∈ a ∨ z ∈ b := mrg_mem lt _ a b (Nat.le_refl _) z
/-- two rows that part alike are made one part by part -/
theorem mrg_parts (lt : α → α → Bool) : ∀ (n : Nat) (a1 b1 a2 b2 : List α), a1.length + b1.length ≤ n → (∀ x ∈ a1, ∀ y ∈ b2, lt y x = false) → (∀ y ∈ b1, ∀ x ∈ a2, lt y x = true) → mrg lt (a1 ++ a2) (b1 ++ b2) = mrg lt a1 b1 ++ mrg lt a2 b2
  | n, [], [], a2, b2, _, _, _ => by
    show mrg lt a2 b2 = mrg lt [] [] ++ mrg lt a2 b2
    rw [show mrg lt ([] : List α) [] = [] by rw [mrg]]; rfl
  | 0, x :: xs, b1, a2, b2, h, _, _ => by simp at h
  | 0, [], y :: ys, a2, b2, h, _, _ => by simp at h
  | n + 1, [], y :: ys, [], b2, h, h1, h2 => by
    rw [show mrg lt ([] : List α) (y :: ys) = y :: ys by rw [mrg], show mrg lt ([] : List α) b2 = b2 by rw [mrg]]
    show mrg lt [] _ = _
    rw [mrg]
  | n + 1, [], y :: ys, x :: a2, b2, h, h1, h2 => by
    have ih := mrg_parts lt n [] ys (x :: a2) b2 (by simp only [List.length_cons, List.length_nil] at h ⊢; omega) (by simp) (fun y hy => h2 y (List.mem_cons_of_mem _ hy))
    rw [show mrg lt ([] : List α) (y :: ys) = y :: ys by rw [mrg]]
    rw [show mrg lt ([] : List α) ys = ys by rw [mrg]] at ih
    show mrg lt (x :: a2) (y :: (ys ++ b2)) = _
    rw [mrg, if_pos (h2 y (List.mem_cons_self ..) x (List.mem_cons_self ..))]
    show y :: mrg lt ([] ++ x :: a2) (ys ++ b2) = _
    rw [ih]; rfl
  | n + 1, x :: xs, [], a2, [], h, h1, h2 => by
    show mrg lt ((x :: xs) ++ a2) [] = mrg lt (x :: xs) [] ++ mrg lt a2 []
    rw [mrg_nil, mrg_nil, mrg_nil]
  | n + 1, x :: xs, [], a2, y :: b2, h, h1, h2 => by
    have ih := mrg_parts lt n xs [] a2 (y :: b2) (by simp only [List.length_cons, List.length_nil] at h ⊢; omega) (fun x hx => h1 x (List.mem_cons_of_mem _ hx)) (by simp)
    rw [mrg_nil] at ih
    rw [mrg_nil]
    show mrg lt (x :: (xs ++ a2)) (y :: b2) = _
    rw [mrg, if_neg (by rw [h1 x (List.mem_cons_self ..) y (List.mem_cons_self ..)]; simp)]
    show x :: mrg lt (xs ++ a2) ([] ++ y :: b2) = _
    rw [ih]; rfl
  | n + 1, x :: xs, y :: ys, a2, b2, h, h1, h2 => by
    simp only [List.length_cons] at h
    show mrg lt (x :: (xs ++ a2)) (y :: (ys ++ b2)) = _
    rw [mrg, mrg]
    split
    · have ih := mrg_parts lt n (x :: xs) ys a2 b2 (by simp only [List.length_cons]; omega) h1 (fun y hy => h2 y (List.mem_cons_of_mem _ hy))
      show y :: mrg lt ((x :: xs) ++ a2) (ys ++ b2) = _
      rw [ih]; rfl
    · have ih := mrg_parts lt n xs (y :: ys) a2 b2 (by simp only [List.length_cons]; omega) (fun x hx => h1 x (List.mem_cons_of_mem _ hx)) h2
      show x :: mrg lt (xs ++ a2) ((y :: ys) ++ b2) = _
      rw [ih]; rfl
theorem mrg_part {lt : α → α → Bool} (a1 b1 a2 b2 : List α) (h1 : ∀ x ∈ a1, ∀ y ∈ b2, lt y x = false) (h2 : ∀ y ∈ b1, ∀ x ∈ a2, lt y x = true) : mrg lt (a1 ++ a2) (b1 ++ b2) = mrg lt a1 b1 ++ mrg lt a2 b2 := mrg_parts lt _ a1 b1 a2 b2 (Nat.le_refl _) h1 h2
/-- one element from behind -/
theorem mrg_back {lt : α → α → Bool} (s1 s2 : List α) (x : α) (h1 : ∀ s ∈ s1, lt x s = false) (h2 : ∀ s ∈ s2, lt x s = true) : mrg lt (s1 ++ s2) [x] = s1 ++ x :: s2 := by
  have := mrg_part (lt := lt) s1 [] s2 [x] (fun s hs y hy => by rw [List.mem_singleton.1 hy]; exact h1 s hs) (by simp)
  rw [List.nil_append] at this
  rw [this, mrg_nil]
  cases s2 with
  | nil => rw [mrg]
  | cons s s2 => rw [mrg, if_pos (h2 s (List.mem_cons_self ..)), mrg_nil]
/-- one element from ahead -/
theorem mrg_front {lt : α → α → Bool} (b1 b2 : List α) (x : α) (h1 : ∀ y ∈ b1, lt y x = true) (h2 : ∀ y ∈ b2, lt y x = false) : mrg lt [x] (b1 ++ b2) = b1 ++ x :: b2 := by
  have := mrg_part (lt := lt) [] b1 [x] b2 (by simp) (fun y hy z hz => by rw [List.mem_singleton.1 hz]; exact h1 y hy)
  rw [List.nil_append] at this
  rw [this, show mrg lt [] b1 = b1 by rw [mrg]]
  cases b2 with
  | nil => rw [mrg]
  | cons y b2 => rw [mrg, if_neg (by rw [h2 y (List.mem_cons_self ..)]; simp), show mrg lt [] (y :: b2) = y :: b2 by rw [mrg]]
theorem mrg_snocs (lt : α → α → Bool) (hw : Weak lt) (x : α) : ∀ (n : Nat) (p q : List α), p.length + q.length ≤ n → mrg lt (mrg lt p q) [x] = mrg lt p (mrg lt q [x])
  | n, [], q, _ => by rw [show mrg lt [] q = q by rw [mrg], show mrg lt [] (mrg lt q [x]) = mrg lt q [x] by rw [mrg]]
  | n, p :: ps, [], _ => by rw [mrg_nil, show mrg lt [] [x] = [x] by rw [mrg]]
  | 0, p :: ps, q :: qs, h => by simp at h
  | n + 1, p :: ps, q :: qs, h => by
    simp only [List.length_cons] at h
    have e1 : mrg lt (p :: ps) (q :: qs) = if lt q p = true then q :: mrg lt (p :: ps) qs else p :: mrg lt ps (q :: qs) := by rw [mrg]
    have e2 : mrg lt (q :: qs) [x] = if lt x q = true then x :: q :: qs else q :: mrg lt qs [x] := by rw [mrg, mrg_nil]
    by_cases hqp : lt q p = true
    · rw [e1, if_pos hqp]
      have e3 : mrg lt (q :: mrg lt (p :: ps) qs) [x] = if lt x q = true then x :: q :: mrg lt (p :: ps) qs else q :: mrg lt (mrg lt (p :: ps) qs) [x] := by rw [mrg, mrg_nil]
      rw [e3, e2]
      by_cases hxq : lt x q = true
      · rw [if_pos hxq, if_pos hxq]
        have : mrg lt (p :: ps) (x :: q :: qs) = x :: mrg lt (p :: ps) (q :: qs) := by rw [mrg, if_pos (hw.tr x q p hxq hqp)]
        rw [this, e1, if_pos hqp]
      · rw [if_neg hxq, if_neg hxq, mrg_snocs lt hw x n (p :: ps) qs (by simp only [List.length_cons]; omega)]
        have : mrg lt (p :: ps) (q :: mrg lt qs [x]) = q :: mrg lt (p :: ps) (mrg lt qs [x]) := by rw [mrg, if_pos hqp]
        rw [this]
    · rw [e1, if_neg hqp]
      have e3 : mrg lt (p :: mrg lt ps (q :: qs)) [x] = if lt x p = true then x :: p :: mrg lt ps (q :: qs) else p :: mrg lt (mrg lt ps (q :: qs)) [x] := by rw [mrg, mrg_nil]
      rw [e3]
      by_cases hxp : lt x p = true
      · have hxq : lt x q = true := by
          rcases hw.co x q p hxp with h | h
          · exact h
          · exact absurd h hqp
        rw [if_pos hxp, e2, if_pos hxq]
        have : mrg lt (p :: ps) (x :: q :: qs) = x :: mrg lt (p :: ps) (q :: qs) := by rw [mrg, if_pos hxp]
        rw [this, e1, if_neg hqp]
      · rw [if_neg hxp, mrg_snocs lt hw x n ps (q :: qs) (by simp only [List.length_cons]; omega), e2]
        by_cases hxq : lt x q = true
        · rw [if_pos hxq]
          have : mrg lt (p :: ps) (x :: q :: qs) = p :: mrg lt ps (x :: q :: qs) := by rw [mrg, if_neg hxp]
          rw [this]
        · rw [if_neg hxq]
          have : mrg lt (p :: ps) (q :: mrg lt qs [x]) = p :: mrg lt ps (q :: mrg lt qs [x]) := by rw [mrg, if_neg hqp]
          rw [this]
theorem insAll_mrg (lt : α → α → Bool) (hw : Weak lt) : ∀ (l p q : List α), insAll lt (mrg lt p q) l = mrg lt p (insAll lt q l)
  | [], _, _ => by rw [insAll, insAll]
  | x :: l, p, q => by rw [insAll, insAll, mrg_snocs lt hw x _ p q (Nat.le_refl _), insAll_mrg lt hw l]
theorem insAll_append (lt : α → α → Bool) : ∀ (a b s : List α), insAll lt s (a ++ b) = insAll lt (insAll lt s a) b
  | [], b, s => by rw [insAll]; rfl
  | x :: a, b, s => by show insAll lt s (x :: (a ++ b)) = _; rw [insAll, insAll, insAll_append lt a b]
theorem isort_append (lt : α → α → Bool) (hw : Weak lt) (a b : List α) : isort lt (a ++ b) = mrg lt (isort lt a) (isort lt b) := by
  unfold isort
  rw [insAll_append, ← insAll_mrg lt hw b, mrg_nil]
theorem isort_snoc (lt : α → α → Bool) (a : List α) (x : α) : isort lt (a ++ [x]) = mrg lt (isort lt a) [x] := by
  unfold isort
  rw [insAll_append, insAll, insAll]
theorem mrg_srts (lt : α → α → Bool) (hw : Weak lt) : ∀ (n : Nat) (a b : List α), a.length + b.length ≤ n → Srt lt a → Srt lt b → Srt lt (mrg lt a b)
  | n, [], b, _, _, hb => by rw [mrg]; exact hb
  | n, x :: xs, [], _, ha, _ => by rw [mrg]; exact ha
  | 0, x :: xs, y :: ys, h, _, _ => by simp at h
  | n + 1, x :: xs, y :: ys, h, ha, hb => by
    simp only [List.length_cons] at h
    obtain ⟨ha1, ha2⟩ := List.pairwise_cons.1 ha
    obtain ⟨hb1, hb2⟩ := List.pairwise_cons.1 hb
    rw [mrg]
    split
    · next hyx =>
      refine List.pairwise_cons.2 ⟨fun z hz => ?_, mrg_srts lt hw n _ _ (by simp only [List.length_cons]; omega) ha hb2⟩
      rcases mem_mrg.1 hz with hz | hz
      · cases hzy : lt z y with
        | false => rfl
        | true =>
          have hzx := hw.tr z y x hzy hyx
          rcases List.mem_cons.1 hz with rfl | hz
          · rw [hw.irr] at hzx; cases hzx
          · rw [ha1 z hz] at hzx; cases hzx
      · exact hb1 z hz
    · next hyx =>
      refine List.pairwise_cons.2 ⟨fun z hz => ?_, mrg_srts lt hw n _ _ (by simp only [List.length_cons]; omega) ha2 hb⟩
      rcases mem_mrg.1 hz with hz | hz
      · exact ha1 z hz
      · rcases List.mem_cons.1 hz with rfl | hz
        · simpa using hyx
        · cases hzx : lt z x with
          | false => rfl
          | true =>
            rcases hw.co z y x hzx with h | h
            · rw [hb1 z hz] at h; cases h
            · exact absurd h hyx
theorem mrg_srt {lt : α → α → Bool} (hw : Weak lt) {a b : List α} (ha : Srt lt a) (hb : Srt lt b) : Srt lt (mrg lt a b) := mrg_srts lt hw _ a b (Nat.le_refl _) ha hb
theorem insAll_srt {lt : α → α → Bool} (hw : Weak lt) : ∀ (l s : List α), Srt lt s → Srt lt (insAll lt s l)
  | [], s, h => by rw [insAll]; exact h
  | x :: l, s, h => by rw [insAll]; exact insAll_srt hw l _ (mrg_srt hw h (List.pairwise_singleton _ _))
theorem isort_srt {lt : α → α → Bool} (hw : Weak lt) (l : List α) : Srt lt (isort lt l) := insAll_srt hw l [] List.Pairwise.nil
theorem insAll_length (lt : α → α → Bool) : ∀ (l s : List α), (insAll lt s l).length = s.length + l.length
  | [], s => by rw [insAll]; simp
  | x :: l, s => by rw [insAll, insAll_length lt l, mrg_length]; simp; omega
theorem isort_length (lt : α → α → Bool) (l : List α) : (isort lt l).length = l.length := by unfold isort; rw [insAll_length]; simp
end
end KindsP

/- A row of fields of one's own, in plain words; names in order. -/
namespace Go.Proofs.Ytcelpmojhjnggaa
open Go Go.RowKit Go.Sort KindsP
set_option maxHeartbeats 1000000
set_option maxRecDepth 100000

/-- block g holds these fields, whose types lie in the elder world w0 -/
def FRow (w0 : World) (d : Nat) (w : World) (g : Nat) (l : List Fld) : Prop :=
  w0.heap.size ≤ g ∧ ∃ cs : Array Value, w.heap[g]? = some (.cells cs 52 (0, 0)) ∧ ∀ k x, l[k]? = some x → ∃ c0 c1 c2 c3 c4 c5 : Value, cs[k * 6]? = some c0 ∧ cs[k * 6 + 1]? = some c1 ∧ cs[k * 6 + 2]? = some c2 ∧ cs[k * 6 + 3]? = some c3 ∧ cs[k * 6 + 4]? = some c4 ∧ cs[k * 6 + 5]? = some c5 ∧ LiesF w0 d [c0, c1, c2, c3, c4, c5] x
theorem FRow.lt {w0 w : World} {d g : Nat} {l : List Fld} (h : FRow w0 d w g l) : g < w.heap.size := by
  obtain ⟨_, cs, h1, _⟩ := h
  exact (Array.getElem?_eq_some_iff.1 h1).1
theorem FRow.frozen {w0 w : World} {d g : Nat} {l : List Fld} (h : FRow w0 d w g l) : ∀ i, w.frozen? ⟨g, i, none⟩ = false := by
  obtain ⟨_, cs, h1, _⟩ := h
  intro i
  simp [World.frozen?, h1]
/-- the cells of one field -/
structure SixC (w : World) (b o : Nat) (nm : ByteArray) (x0 : Int) (x1 x2 : ByteArray) (x3 : Option Addr) (x4 x5 : Nat) (x6 : Option Addr) (x7 x8 : Nat) : Prop where
  c0 : w.cell? ⟨b, o, none⟩ = some (.string nm)
  c1 : w.cell? ⟨b, o + 1, none⟩ = some (.int .i64 x0)
  c2 : w.cell? ⟨b, o + 2, none⟩ = some (.string x1)
  c3 : w.cell? ⟨b, o + 3, none⟩ = some (.string x2)
  c4 : w.cell? ⟨b, o + 4, none⟩ = some (.slice x3 x4 x5)
  c5 : w.cell? ⟨b, o + 5, none⟩ = some (.slice x6 x7 x8)
theorem FRow.cell {w0 w : World} {d g : Nat} {l : List Fld} (h : FRow w0 d w g l) (k : Nat) (x : Fld) (hk : l[k]? = some x) : ∃ x0 x1 x2 x3 x4 x5 x6 x7 x8, SixC w g (k * 6) x.name x0 x1 x2 x3 x4 x5 x6 x7 x8 ∧ LiesF w0 d [.string x.name, .int .i64 x0, .string x1, .string x2, .slice x3 x4 x5, .slice x6 x7 x8] x := by
  obtain ⟨_, cs, h1, h2⟩ := h
  obtain ⟨c0, c1, c2, c3, c4, c5, e0, e1, e2, e3, e4, e5, hl⟩ := h2 k x hk
  have hl' := hl
  obtain ⟨z0, z1, z2, z3, z4, e, ht⟩ := hl'
  simp only [List.cons.injEq, and_true] at e
  obtain ⟨rfl, rfl, rfl, rfl, rfl, rfl⟩ := e
  obtain ⟨x0, x1, x2, x3, x4, x5, x6, x7, x8, rfl, rfl, rfl, rfl, rfl⟩ := lies_form ht
  exact ⟨x0, x1, x2, x3, x4, x5, x6, x7, x8, ⟨by simp [World.cell?, h1, e0], by simp [World.cell?, h1, e1], by simp [World.cell?, h1, e2], by simp [World.cell?, h1, e3], by simp [World.cell?, h1, e4], by simp [World.cell?, h1, e5]⟩, hl⟩
theorem FRow.keep {w0 w w' : World} {d g : Nat} {l : List Fld} (h : FRow w0 d w g l) (hg : w'.heap[g]? = w.heap[g]?) : FRow w0 d w' g l := by
  obtain ⟨h0, cs, h1, h2⟩ := h
  exact ⟨h0, cs, hg.trans h1, h2⟩
theorem FRow.below {w0 w w' : World} {d g : Nat} {l : List Fld} (h : FRow w0 d w g l) (hb : Below w.heap.size w w') : FRow w0 d w' g l := h.keep (hb.block g h.lt)
abbrev six (w : World) (X o : Nat) (t0 t1 t2 t3 t4 t5 : Value) : World := (((((w.setCell ⟨X, o, none⟩ t0).setCell ⟨X, o + 1, none⟩ t1).setCell ⟨X, o + 2, none⟩ t2).setCell ⟨X, o + 3, none⟩ t3).setCell ⟨X, o + 4, none⟩ t4).setCell ⟨X, o + 5, none⟩ t5
theorem FRow.set {w0 w : World} {d g : Nat} {l : List Fld} (h : FRow w0 d w g l) (i : Nat) (hi : i < l.length) (t0 t1 t2 t3 t4 t5 : Value) (a : Fld) (hu : LiesF w0 d [t0, t1, t2, t3, t4, t5] a) : FRow w0 d (six w g (i * 6) t0 t1 t2 t3 t4 t5) g (l.set i a) := by
  obtain ⟨h0, cs, h1, h2⟩ := h
  refine ⟨h0, _, setAt t5 (setAt t4 (setAt t3 (setAt t2 (setAt t1 (setAt t0 h1))))), fun k x hk => ?_⟩
  obtain ⟨y0, y1, y2, y3, y4, y5, d0, d1, d2, d3, d4, d5, _⟩ := h2 i l[i] (List.getElem?_eq_getElem hi)
  have s5 := (Array.getElem?_eq_some_iff.1 d5).1
  rw [List.getElem?_set] at hk
  by_cases hik : i = k
  · subst hik
    rw [if_pos rfl, if_pos hi] at hk
    obtain rfl := Option.some.inj hk
    refine ⟨t0, t1, t2, t3, t4, t5, ?_, ?_, ?_, ?_, ?_, ?_, hu⟩ <;> simp [Array.getElem?_setIfInBounds] <;> omega
  · rw [if_neg hik] at hk
    obtain ⟨x0, x1, x2, x3, x4, x5, c0, c1, c2, c3, c4, c5, hl⟩ := h2 k x hk
    have n0 : ∀ a b : Nat, a < 6 → b < 6 → ¬ (i * 6 + a = k * 6 + b) := by intro a b ha hb; omega
    have m0 : ∀ b : Nat, b < 6 → ¬ (i * 6 = k * 6 + b) := by intro b hb; omega
    have m1 : ∀ a : Nat, a < 6 → ¬ (i * 6 + a = k * 6) := by intro a ha; omega
    have m2 : ¬ (i * 6 = k * 6) := by omega
    refine ⟨x0, x1, x2, x3, x4, x5, ?_, ?_, ?_, ?_, ?_, ?_, hl⟩
    · simp only [Array.getElem?_setIfInBounds]; simp [m1, m2, c0]
    · simp only [Array.getElem?_setIfInBounds]; simp [m0, n0, c1]; omega
    · simp only [Array.getElem?_setIfInBounds]; simp [m0, n0, c2]; omega
    · simp only [Array.getElem?_setIfInBounds]; simp [m0, n0, c3]; omega
    · simp only [Array.getElem?_setIfInBounds]; simp [m0, n0, c4]; omega
    · simp only [Array.getElem?_setIfInBounds]; simp [m0, c5]; omega
theorem Aside.six {g : Nat} {a w : World} (h : Aside g g a w) (o : Nat) (t0 t1 t2 t3 t4 t5 : Value) : Aside g g a (six w g o t0 t1 t2 t3 t4 t5) := (((((h.setX _ _).setX _ _).setX _ _).setX _ _).setX _ _).setX _ _

/-! ### Names in order -/
theorem bl_irr : ∀ l : List UInt8, Op.bytesLess l l = false
  | [] => rfl
  | a :: l => by simp [Op.bytesLess, bl_irr l]
theorem bl_cons (a b : UInt8) (x y : List UInt8) : Op.bytesLess (a :: x) (b :: y) = true ↔ a.toNat < b.toNat ∨ (a.toNat = b.toNat ∧ Op.bytesLess x y = true) := by
  rw [Op.bytesLess]
  simp only [Bool.or_eq_true, decide_eq_true_eq, Bool.and_eq_true, beq_iff_eq, UInt8.lt_iff_toNat_lt, UInt8.toNat_inj]
theorem bl_co : ∀ x y z : List UInt8, Op.bytesLess x z = true → Op.bytesLess x y = true ∨ Op.bytesLess y z = true
  | x, y, [], h => by rw [Op.bytesLess] at h; cases h
  | [], [], c :: z, _ => .inr rfl
  | [], b :: y, c :: z, _ => .inl rfl
  | a :: x, [], c :: z, _ => .inr rfl
  | a :: x, b :: y, c :: z, h => by
    rw [bl_cons] at h ⊢
    rw [bl_cons]
    rcases h with h | ⟨h, h'⟩
    · by_cases hab : a.toNat < b.toNat
      · exact .inl (.inl hab)
      · exact .inr (.inl (by omega))
    · by_cases hab : a.toNat < b.toNat
      · exact .inl (.inl hab)
      · by_cases hba : b.toNat < a.toNat
        · exact .inr (.inl (by omega))
        · rcases bl_co x y z h' with h2 | h2
          · exact .inl (.inr ⟨by omega, h2⟩)
          · exact .inr (.inr ⟨by omega, h2⟩)
theorem bl_tr : ∀ x y z : List UInt8, Op.bytesLess x y = true → Op.bytesLess y z = true → Op.bytesLess x z = true
  | x, [], z, h, _ => by rw [Op.bytesLess] at h; cases h
  | x, b :: y, [], _, h => by rw [Op.bytesLess] at h; cases h
  | [], b :: y, c :: z, _, _ => rfl
  | a :: x, b :: y, c :: z, h, h' => by
    rw [bl_cons] at h h' ⊢
    rcases h with h | ⟨h, h2⟩
    · rcases h' with h' | ⟨h', _⟩
      · exact .inl (by omega)
      · exact .inl (by omega)
    · rcases h' with h' | ⟨h', h3⟩
      · exact .inl (by omega)
      · exact .inr ⟨by omega, bl_tr x y z h2 h3⟩
/-- the name of one field is less than that of another -/
def ltF (a b : Fld) : Bool := Op.bytesLess a.name.toList b.name.toList
theorem weakF : Weak ltF := ⟨fun _ => bl_irr _, fun _ _ _ h h' => bl_tr _ _ _ h h', fun _ _ _ h => bl_co _ _ _ h⟩

/-! ### Names are compared -/
def cmpI (a b : ByteArray) : Int := if Op.bytesLess a.toList b.toList = true then -1 else if (a.toList == b.toList) = true then 0 else 1
theorem cmpI_neg (a b : ByteArray) : (cmpI a b < 0) = (Op.bytesLess a.toList b.toList = true) := by
  unfold cmpI
  split
  · next h => simp [h]
  · next h => rw [eq_iff_iff]; constructor
              · intro h'; split at h' <;> omega
              · intro h'; exact absurd h' h
theorem cmp_any (w : World) (a b : ByteArray) : Calls Try.prog 56 #[.string a, .string b] w fun e w' => e = .returned (.int .i64 (cmpI a b)) ∧ w' = w := by
  have hnan : ∀ a : ByteArray, Calls Try.prog 71 #[.string a] w fun e w' => e = .returned (.bool false) ∧ w' = w := by
    intro a
    go_enter Try.func71, Try.ntmps71
    go_wp2
    go_ret
    exact ⟨rfl, rfl⟩
  obtain ⟨i, hi⟩ : ∃ i, cmpI a b = i := ⟨_, rfl⟩
  rw [hi]
  unfold cmpI at hi
  cases h : Op.bytesLess a.toList b.toList
  · rw [h] at hi
    cases h2 : (a.toList == b.toList)
    · rw [h2] at hi
      obtain rfl : i = 1 := by simpa using hi.symm
      go_enter Try.func56, Try.ntmps56
      go_wp2_with (first | (go_at_call 71; refine (hnan _).mono ?_; rintro e w5 ⟨rfl, hw5⟩; obtain rfl := hw5.symm))
      go_ret
      exact ⟨rfl, rfl⟩
    · rw [h2] at hi
      obtain rfl : i = 0 := by simpa using hi.symm
      go_enter Try.func56, Try.ntmps56
      go_wp2_with (first | (go_at_call 71; refine (hnan _).mono ?_; rintro e w5 ⟨rfl, hw5⟩; obtain rfl := hw5.symm))
      go_ret
      exact ⟨rfl, rfl⟩
  · rw [h] at hi
    obtain rfl : i = -1 := by simpa using hi.symm
    go_enter Try.func56, Try.ntmps56
    go_wp2_with (first | (go_at_call 71; refine (hnan _).mono ?_; rintro e w5 ⟨rfl, hw5⟩; obtain rfl := hw5.symm))
    go_ret
    exact ⟨rfl, rfl⟩
/-- the function that compares two fields -/
theorem clo55_any (w : World) (a b : ByteArray) (x0 y0 : Int) (x1 x2 y1 y2 : ByteArray) (x3 x6 y3 y6 : Option Addr) (x4 x5 x7 x8 y4 y5 y7 y8 : Nat) :
    Calls Try.prog 55 #[.agg #[.string a, .int .i64 x0, .string x1, .string x2, .slice x3 x4 x5, .slice x6 x7 x8], .agg #[.string b, .int .i64 y0, .string y1, .string y2, .slice y3 y4 y5, .slice y6 y7 y8]] w fun e w' => e = .returned (.int .i64 (cmpI a b)) ∧ Below w.heap.size w w' := by
  have hb := alloc2_below w (.cells #[.string a, .int .i64 x0, .string x1, .string x2, .slice x3 x4 x5, .slice x6 x7 x8] 52) (.cells #[.string b, .int .i64 y0, .string y1, .string y2, .slice y3 y4 y5, .slice y6 y7 y8] 52)
  have HB := Lib.hid hb
  clear hb
  go_enter Try.func55, Try.ntmps55
  go_wp2_with (first | (go_at_call 56; refine (cmp_any _ a b).mono ?_; rintro e w5 ⟨rfl, hw5⟩; obtain rfl := hw5.symm))
  go_ret
  exact ⟨rfl, HB.out⟩
end Go.Proofs.Ytcelpmojhjnggaa
