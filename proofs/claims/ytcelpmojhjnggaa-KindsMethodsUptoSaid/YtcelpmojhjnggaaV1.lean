/- A row of fields of one's own, in plain words; names in order. -/
import Derived.Test.YtcelpmojhjnggaaU8
import Derived.Test.YtcelpmojhjnggaaQ0
import Derived.Test.YtcelpmojhjnggaaV0
namespace Go.Proofs.Ytcelpmojhjnggaa
open Go Go.RowKit Go.Sort KindsP
set_option maxHeartbeats 1000000
set_option maxRecDepth 100000

/-- block g holds these fields, whose types lie in the elder world w0 -/
def FRow (w0 : World) (d : Nat) (w : World) (g : Nat) (l : List Fld) : Prop :=
  w0.heap.size ≤ g ∧ ∃ cs : Array Value, w.heap[g]? = some (.cells cs 52 (0, 0)) ∧ ∀ k x, l[k]? = some x → ∃ c0 c1 c2 c3 c4 c5 : Value, cs[k * 6]? = some c0 ∧ cs[k * 6 + 1]? = some c1 ∧ cs[k * 6 + 2]? = some c2 ∧ cs[k * 6 + 3]? = some c3 ∧ cs[k * 6 + 4]? = some c4 ∧ cs[k * 6 + 5]? = some c5 ∧ LiesF w0 d [c0, c1, c2, c3, c4, c5] x
theorem FRow.lt {w0 w : World} {d g : Nat} {l : List Fld} (h : FRow w0 d w g l) : g < w.heap.size := by
  obtain ⟨_, cs, h1, _⟩ := h
  exact (Array.getElem?_eq_some_iff.1 h1).1
theorem FRow.frozen {w0 w : World} {d g : Nat} {l : List Fld} (h : FRow w0 d w g l) : ∀ i, w.frozen? ⟨g, i, none⟩ = false := by
  obtain ⟨_, cs, h1, _⟩ := h
  intro i
  simp [World.frozen?, h1]
/-- the cells of one field -/
structure SixC (w : World) (b o : Nat) (nm : ByteArray) (x0 : Int) (x1 x2 : ByteArray) (x3 : Option Addr) (x4 x5 : Nat) (x6 : Option Addr) (x7 x8 : Nat) : Prop where
  c0 : w.cell? ⟨b, o, none⟩ = some (.string nm)
  c1 : w.cell? ⟨b, o + 1, none⟩ = some (.int .i64 x0)
  c2 : w.cell? ⟨b, o + 2, none⟩ = some (.string x1)
  c3 : w.cell? ⟨b, o + 3, none⟩ = some (.string x2)
  c4 : w.cell? ⟨b, o + 4, none⟩ = some (.slice x3 x4 x5)
  c5 : w.cell? ⟨b, o + 5, none⟩ = some (.slice x6 x7 x8)
theorem FRow.cell {w0 w : World} {d g : Nat} {l : List Fld} (h : FRow w0 d w g l) (k : Nat) (x : Fld) (hk : l[k]? = some x) : ∃ x0 x1 x2 x3 x4 x5 x6 x7 x8, SixC w g (k * 6) x.name x0 x1 x2 x3 x4 x5 x6 x7 x8 ∧ LiesF w0 d [.string x.name, .int .i64 x0, .string x1, .string x2, .slice x3 x4 x5, .slice x6 x7 x8] x := by
  obtain ⟨_, cs, h1, h2⟩ := h
  obtain ⟨c0, c1, c2, c3, c4, c5, e0, e1, e2, e3, e4, e5, hl⟩ := h2 k x hk
  have hl' := hl
  obtain ⟨z0, z1, z2, z3, z4, e, ht⟩ := hl'
  simp only [List.cons.injEq, and_true] at e
  obtain ⟨rfl, rfl, rfl, rfl, rfl, rfl⟩ := e
  obtain ⟨x0, x1, x2, x3, x4, x5, x6, x7, x8, rfl, rfl, rfl, rfl, rfl⟩ := lies_form ht
  exact ⟨x0, x1, x2, x3, x4, x5, x6, x7, x8, ⟨by simp [World.cell?, h1, e0], by simp [World.cell?, h1, e1], by simp [World.cell?, h1, e2], by simp [World.cell?, h1, e3], by simp [World.cell?, h1, e4], by simp [World.cell?, h1, e5]⟩, hl⟩
theorem FRow.keep {w0 w w' : World} {d g : Nat} {l : List Fld} (h : FRow w0 d w g l) (hg : w'.heap[g]? = w.heap[g]?) : FRow w0 d w' g l := by
  obtain ⟨h0, cs, h1, h2⟩ := h
  exact ⟨h0, cs, hg.trans h1, h2⟩
theorem FRow.below {w0 w w' : World} {d g : Nat} {l : List Fld} (h : FRow w0 d w g l) (hb : Below w.heap.size w w') : FRow w0 d w' g l := h.keep (hb.block g h.lt)
abbrev six (w : World) (X o : Nat) (t0 t1 t2 t3 t4 t5 : Value) : World := (((((w.setCell ⟨X, o, none⟩ t0).setCell ⟨X, o + 1, none⟩ t1).setCell ⟨X, o + 2, none⟩ t2).setCell ⟨X, o + 3, none⟩ t3).setCell ⟨X, o + 4, none⟩ t4).setCell ⟨X, o + 5, none⟩ t5
theorem FRow.set {w0 w : World} {d g : Nat} {l : List Fld} (h : FRow w0 d w g l) (i : Nat) (hi : i < l.length) (t0 t1 t2 t3 t4 t5 : Value) (a : Fld) (hu : LiesF w0 d [t0, t1, t2, t3, t4, t5] a) : FRow w0 d (six w g (i * 6) t0 t1 t2 t3 t4 t5) g (l.set i a) := by
  obtain ⟨h0, cs, h1, h2⟩ := h
  refine ⟨h0, _, setAt t5 (setAt t4 (setAt t3 (setAt t2 (setAt t1 (setAt t0 h1))))), fun k x hk => ?_⟩
  obtain ⟨y0, y1, y2, y3, y4, y5, d0, d1, d2, d3, d4, d5, _⟩ := h2 i l[i] (List.getElem?_eq_getElem hi)
  have s5 := (Array.getElem?_eq_some_iff.1 d5).1
  rw [List.getElem?_set] at hk
  by_cases hik : i = k
  · subst hik
    rw [if_pos rfl, if_pos hi] at hk
    obtain rfl := Option.some.inj hk
    refine ⟨t0, t1, t2, t3, t4, t5, ?_, ?_, ?_, ?_, ?_, ?_, hu⟩ <;> simp [Array.getElem?_setIfInBounds] <;> omega
  · rw [if_neg hik] at hk
    obtain ⟨x0, x1, x2, x3, x4, x5, c0, c1, c2, c3, c4, c5, hl⟩ := h2 k x hk
    have n0 : ∀ a b : Nat, a < 6 → b < 6 → ¬ (i * 6 + a = k * 6 + b) := by intro a b ha hb; omega
    have m0 : ∀ b : Nat, b < 6 → ¬ (i * 6 = k * 6 + b) := by intro b hb; omega
    have m1 : ∀ a : Nat, a < 6 → ¬ (i * 6 + a = k * 6) := by intro a ha; omega
    have m2 : ¬ (i * 6 = k * 6) := by omega
    refine ⟨x0, x1, x2, x3, x4, x5, ?_, ?_, ?_, ?_, ?_, ?_, hl⟩
    · simp only [Array.getElem?_setIfInBounds]; simp [m1, m2, c0]
    · simp only [Array.getElem?_setIfInBounds]; simp [m0, n0, c1]; omega
    · simp only [Array.getElem?_setIfInBounds]; simp [m0, n0, c2]; omega
    · simp only [Array.getElem?_setIfInBounds]; simp [m0, n0, c3]; omega
    · simp only [Array.getElem?_setIfInBounds]; simp [m0, n0, c4]; omega
    · simp only [Array.getElem?_setIfInBounds]; simp [m0, c5]; omega
theorem Aside.six {g : Nat} {a w : World} (h : Aside g g a w) (o : Nat) (t0 t1 t2 t3 t4 t5 : Value) : Aside g g a (six w g o t0 t1 t2 t3 t4 t5) := (((((h.setX _ _).setX _ _).setX _ _).setX _ _).setX _ _).setX _ _

/-! ### Names in order -/
theorem bl_irr : ∀ l : List UInt8, Op.bytesLess l l = false
  | [] => rfl
  | a :: l => by simp [Op.bytesLess, bl_irr l]
theorem bl_cons (a b : UInt8) (x y : List UInt8) : Op.bytesLess (a :: x) (b :: y) = true ↔ a.toNat < b.toNat ∨ (a.toNat = b.toNat ∧ Op.bytesLess x y = true) := by
  rw [Op.bytesLess]
  simp only [Bool.or_eq_true, decide_eq_true_eq, Bool.and_eq_true, beq_iff_eq, UInt8.lt_iff_toNat_lt, UInt8.toNat_inj]
theorem bl_co : ∀ x y z : List UInt8, Op.bytesLess x z = true → Op.bytesLess x y = true ∨ Op.bytesLess y z = true
  | x, y, [], h => by rw [Op.bytesLess] at h; cases h
  | [], [], c :: z, _ => .inr rfl
  | [], b :: y, c :: z, _ => .inl rfl
  | a :: x, [], c :: z, _ => .inr rfl
  | a :: x, b :: y, c :: z, h => by
    rw [bl_cons] at h ⊢
    rw [bl_cons]
    rcases h with h | ⟨h, h'⟩
    · by_cases hab : a.toNat < b.toNat
      · exact .inl (.inl hab)
      · exact .inr (.inl (by omega))
    · by_cases hab : a.toNat < b.toNat
      · exact .inl (.inl hab)
      · by_cases hba : b.toNat < a.toNat
        · exact .inr (.inl (by omega))
        · rcases bl_co x y z h' with h2 | h2
          · exact .inl (.inr ⟨by omega, h2⟩)
          · exact .inr (.inr ⟨by omega, h2⟩)
theorem bl_tr : ∀ x y z : List UInt8, Op.bytesLess x y = true → Op.bytesLess y z = true → Op.bytesLess x z = true
  | x, [], z, h, _ => by rw [Op.bytesLess] at h; cases h
  | x, b :: y, [], _, h => by rw [Op.bytesLess] at h; cases h
  | [], b :: y, c :: z, _, _ => rfl
  | a :: x, b :: y, c :: z, h, h' => by
    rw [bl_cons] at h h' ⊢
    rcases h with h | ⟨h, h2⟩
    · rcases h' with h' | ⟨h', _⟩
      · exact .inl (by omega)
      · exact .inl (by omega)
    · rcases h' with h' | ⟨h', h3⟩
      · exact .inl (by omega)
      · exact .inr ⟨by omega, bl_tr x y z h2 h3⟩
/-- the name of one field is less than that of another -/
def ltF (a b : Fld) : Bool := Op.bytesLess a.name.toList b.name.toList
theorem weakF : Weak ltF := ⟨fun _ => bl_irr _, fun _ _ _ h h' => bl_tr _ _ _ h h', fun _ _ _ h => bl_co _ _ _ h⟩

/-! ### Names are compared -/
def cmpI (a b : ByteArray) : Int := if Op.bytesLess a.toList b.toList = true then -1 else if (a.toList == b.toList) = true then 0 else 1
theorem cmpI_neg (a b : ByteArray) : (cmpI a b < 0) = (Op.bytesLess a.toList b.toList = true) := by
  unfold cmpI
  split
  · next h => simp [h]
  · next h => rw [eq_iff_iff]; constructor
              · intro h'; split at h' <;> omega
              · intro h'; exact absurd h' h
theorem cmp_any (w : World) (a b : ByteArray) : Calls Try.prog 56 #[.string a, .string b] w fun e w' => e = .returned (.int .i64 (cmpI a b)) ∧ w' = w := by
  have hnan : ∀ a : ByteArray, Calls Try.prog 71 #[.string a] w fun e w' => e = .returned (.bool false) ∧ w' = w := by
    intro a
    go_enter Try.func71, Try.ntmps71
    go_wp2
    go_ret
    exact ⟨rfl, rfl⟩
  obtain ⟨i, hi⟩ : ∃ i, cmpI a b = i := ⟨_, rfl⟩
  rw [hi]
  unfold cmpI at hi
  cases h : Op.bytesLess a.toList b.toList
  · rw [h] at hi
    cases h2 : (a.toList == b.toList)
    · rw [h2] at hi
      obtain rfl : i = 1 := by simpa using hi.symm
      go_enter Try.func56, Try.ntmps56
      go_wp2_with (first | (go_at_call 71; refine (hnan _).mono ?_; rintro e w5 ⟨rfl, hw5⟩; obtain rfl := hw5.symm))
      go_ret
      exact ⟨rfl, rfl⟩
    · rw [h2] at hi
      obtain rfl : i = 0 := by simpa using hi.symm
      go_enter Try.func56, Try.ntmps56
      go_wp2_with (first | (go_at_call 71; refine (hnan _).mono ?_; rintro e w5 ⟨rfl, hw5⟩; obtain rfl := hw5.symm))
      go_ret
      exact ⟨rfl, rfl⟩
  · rw [h] at hi
    obtain rfl : i = -1 := by simpa using hi.symm
    go_enter Try.func56, Try.ntmps56
    go_wp2_with (first | (go_at_call 71; refine (hnan _).mono ?_; rintro e w5 ⟨rfl, hw5⟩; obtain rfl := hw5.symm))
    go_ret
    exact ⟨rfl, rfl⟩
/-- the function that compares two fields -/
theorem clo55_any (w : World) (a b : ByteArray) (x0 y0 : Int) (x1 x2 y1 y2 : ByteArray) (x3 x6 y3 y6 : Option Addr) (x4 x5 x7 x8 y4 y5 y7 y8 : Nat) :
    Calls Try.prog 55 #[.agg #[.string a, .int .i64 x0, .string x1, .string x2, .slice x3 x4 x5, .slice x6 x7 x8], .agg #[.string b, .int .i64 y0, .string y1, .string y2, .slice y3 y4 y5, .slice y6 y7 y8]] w fun e w' => e = .returned (.int .i64 (cmpI a b)) ∧ Below w.heap.size w w' := by
  have hb := alloc2_below w (.cells #[.string a, .int .i64 x0, .string x1, .string x2, .slice x3 x4 x5, .slice x6 x7 x8] 52) (.cells #[.string b, .int .i64 y0, .string y1, .string y2, .slice y3 y4 y5, .slice y6 y7 y8] 52)
  have HB := Lib.hid hb
  clear hb
  go_enter Try.func55, Try.ntmps55
  go_wp2_with (first | (go_at_call 56; refine (cmp_any _ a b).mono ?_; rintro e w5 ⟨rfl, hw5⟩; obtain rfl := hw5.symm))
  go_ret
  exact ⟨rfl, HB.out⟩
end Go.Proofs.Ytcelpmojhjnggaa
