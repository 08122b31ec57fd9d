/- Units in memory, in plain words. -/
import Derived.Test.YtcelpmojhjnggaaK6
namespace Go.Proofs.Ytcelpmojhjnggaa
open Go Go.RowKit KindsP
set_option maxRecDepth 100000

/-- a slice of elements of n cells each, and what R says of them -/
def RowG {α : Type} (n : Nat) (R : List Value → α → Prop) (w : World) (v : Value) (l : List α) : Prop :=
  ∃ a c, v = .slice a l.length c ∧ l.length ≤ c ∧ c ≤ maxLen ∧ (l = [] ∨ ∃ b o, a = some ⟨b, o, none⟩ ∧ ∀ i x, l[i]? = some x → ∃ cs : List Value, R cs x ∧ ∀ j u, cs[j]? = some u → w.cell? ⟨b, o + i * n + j, none⟩ = some u)
theorem RowG.mono {α : Type} {n : Nat} {R R' : List Value → α → Prop} {w w' : World} {v : Value} {l : List α} (h : RowG n R w v l) (hR : ∀ cs x, R cs x → R' cs x) (hb : Below w.heap.size w w') : RowG n R' w' v l := by
  obtain ⟨a, c, h1, h2, h3, h4⟩ := h
  refine ⟨a, c, h1, h2, h3, ?_⟩
  rcases h4 with h4 | ⟨b, o, h5, h6⟩
  · exact .inl h4
  · refine .inr ⟨b, o, h5, fun i x hx => ?_⟩
    obtain ⟨cs, hr, hf⟩ := h6 i x hx
    exact ⟨cs, hR _ _ hr, fun j u hu => (hb.cell (World.block_lt_of_cell? w _ (hf j u hu))).trans (hf j u hu)⟩
theorem RowG.form {α : Type} {n : Nat} {R : List Value → α → Prop} {w : World} {v : Value} {l : List α} (h : RowG n R w v l) : ∃ a c, v = .slice a l.length c ∧ l.length ≤ c ∧ c ≤ maxLen ∧ (0 < l.length → ∃ b o, a = some ⟨b, o, none⟩) := by
  obtain ⟨a, c, h1, h2, h3, h4⟩ := h
  refine ⟨a, c, h1, h2, h3, fun hl => ?_⟩
  rcases h4 with rfl | ⟨b, o, h5, _⟩
  · simp at hl
  · exact ⟨b, o, h5⟩
theorem RowG.get {α : Type} {R : List Value → α → Prop} {w : World} {b o n m c : Nat} {l : List α} (h : RowG n R w (.slice (some ⟨b, o, none⟩) m c) l) (i : Nat) (x : α) (hx : l[i]? = some x) :
    ∃ cs : List Value, R cs x ∧ ∀ j u, cs[j]? = some u → w.cell? ⟨b, o + i * n + j, none⟩ = some u := by
  obtain ⟨a, c', h1, _, _, h4⟩ := h
  rcases h4 with h4 | ⟨b', o', h5, h6⟩
  · subst h4; simp at hx
  · subst h5
    simp only [Value.slice.injEq, Option.some.injEq, Addr.mk.injEq] at h1
    obtain ⟨⟨rfl, rfl, _⟩, _, _⟩ := h1
    exact h6 i x hx
theorem RowG.nil {α : Type} (n : Nat) (R : List Value → α → Prop) (w : World) : RowG n R w (.slice none 0 0) ([] : List α) := ⟨none, 0, rfl, by simp, by unfold maxLen; omega, .inl rfl⟩

/-- an expression of the tree code lies in memory -/
def LiesE (w : World) : Nat → List Value → Unit → Prop
  | 0, _, _ => False
  | d + 1, cs, _ => ∃ k n s v, ∃ l : List Unit, cs = [.int .i64 k, .int .i64 n, .string s, v] ∧ RowG 4 (LiesE w d) w v l
/-- a statement of the tree code lies in memory -/
def LiesS (w : World) : Nat → List Value → Unit → Prop
  | 0, _, _ => False
  | d + 1, cs, _ => ∃ k n ve vb vl, ∃ le lb ll : List Unit, cs = [.int .i64 k, .int .i64 n, ve, vb, vl] ∧ RowG 4 (LiesE w d) w ve le ∧ RowG 5 (LiesS w d) w vb lb ∧ RowG 5 (LiesS w d) w vl ll
theorem LiesE.below {w w' : World} (hb : Below w.heap.size w w') : ∀ (d : Nat) (cs : List Value) (u : Unit), LiesE w d cs u → LiesE w' d cs u
  | 0, _, _, h => h.elim
  | d + 1, _, _, ⟨k, n, s, v, l, h1, h2⟩ => ⟨k, n, s, v, l, h1, h2.mono (LiesE.below hb d) hb⟩
theorem LiesS.below {w w' : World} (hb : Below w.heap.size w w') : ∀ (d : Nat) (cs : List Value) (u : Unit), LiesS w d cs u → LiesS w' d cs u
  | 0, _, _, h => h.elim
  | d + 1, _, _, ⟨k, n, ve, vb, vl, le, lb, ll, h1, h2, h3, h4⟩ => ⟨k, n, ve, vb, vl, le, lb, ll, h1, h2.mono (LiesE.below hb d) hb, h3.mono (LiesS.below hb d) hb, h4.mono (LiesS.below hb d) hb⟩
theorem LiesE.deeper {w : World} : ∀ (d : Nat) (cs : List Value) (u : Unit), LiesE w d cs u → LiesE w (d + 1) cs u
  | 0, _, _, h => h.elim
  | d + 1, _, _, ⟨k, n, s, v, l, h1, h2⟩ => ⟨k, n, s, v, l, h1, h2.mono (LiesE.deeper d) (Below.refl _ _)⟩
theorem LiesS.deeper {w : World} : ∀ (d : Nat) (cs : List Value) (u : Unit), LiesS w d cs u → LiesS w (d + 1) cs u
  | 0, _, _, h => h.elim
  | d + 1, _, _, ⟨k, n, ve, vb, vl, le, lb, ll, h1, h2, h3, h4⟩ => ⟨k, n, ve, vb, vl, le, lb, ll, h1, h2.mono (LiesE.deeper d) (Below.refl _ _), h3.mono (LiesS.deeper d) (Below.refl _ _), h4.mono (LiesS.deeper d) (Below.refl _ _)⟩
theorem LiesE.le {w : World} {d d' : Nat} {cs : List Value} {u : Unit} (h : LiesE w d cs u) (hd : d ≤ d') : LiesE w d' cs u := by
  induction hd with
  | refl => exact h
  | step _ ih => exact LiesE.deeper _ _ _ ih
theorem LiesS.le {w : World} {d d' : Nat} {cs : List Value} {u : Unit} (h : LiesS w d cs u) (hd : d ≤ d') : LiesS w d' cs u := by
  induction hd with
  | refl => exact h
  | step _ ih => exact LiesS.deeper _ _ _ ih

/-- a name with a type -/
structure Fld where
  name : ByteArray
  ty : Ty
/-- a declaration -/
structure Dcl where
  kind : Int
  name : ByteArray
  of : ByteArray
  value : Int
  ty : Ty
  fields : List Fld
/-- a unit -/
structure Unt where
  pkg : ByteArray
  decls : List Dcl
def LiesF (w : World) (d : Nat) (cs : List Value) (x : Fld) : Prop := ∃ c0 c1 c2 c3 c4, cs = [.string x.name, c0, c1, c2, c3, c4] ∧ Lies w d (.agg #[c0, c1, c2, c3, c4]) x.ty
def LiesD (w : World) (d : Nat) (cs : List Value) (x : Dcl) : Prop := ∃ c0 c1 c2 c3 c4 vf, cs = [.int .i64 x.kind, .string x.name, .string x.of, .int .i64 x.value, c0, c1, c2, c3, c4, vf] ∧ Lies w d (.agg #[c0, c1, c2, c3, c4]) x.ty ∧ RowG 6 (LiesF w d) w vf x.fields
def LiesB (w : World) (d : Nat) (cs : List Value) (_ : Unit) : Prop := ∃ n b p l v, ∃ s : List Unit, cs = [.string n, .bool b, .int .i64 p, .int .i64 l, v] ∧ RowG 5 (LiesS w d) w v s
def LiesU (w : World) (d : Nat) (cs : List Value) (x : Unt) : Prop := ∃ vi vd vb, ∃ li lb : List Unit, cs = [.string x.pkg, vi, vd, vb] ∧ RowG 2 (fun _ _ => True) w vi li ∧ RowG 10 (LiesD w d) w vd x.decls ∧ RowG 5 (LiesB w d) w vb lb
theorem LiesF.below {w w' : World} (hb : Below w.heap.size w w') (d : Nat) (cs : List Value) (x : Fld) (h : LiesF w d cs x) : LiesF w' d cs x := by
  obtain ⟨c0, c1, c2, c3, c4, h1, h2⟩ := h
  exact ⟨c0, c1, c2, c3, c4, h1, Lies.below hb _ _ _ h2⟩
theorem LiesD.below {w w' : World} (hb : Below w.heap.size w w') (d : Nat) (cs : List Value) (x : Dcl) (h : LiesD w d cs x) : LiesD w' d cs x := by
  obtain ⟨c0, c1, c2, c3, c4, vf, h1, h2, h3⟩ := h
  exact ⟨c0, c1, c2, c3, c4, vf, h1, Lies.below hb _ _ _ h2, h3.mono (LiesF.below hb d) hb⟩
theorem LiesB.below {w w' : World} (hb : Below w.heap.size w w') (d : Nat) (cs : List Value) (x : Unit) (h : LiesB w d cs x) : LiesB w' d cs x := by
  obtain ⟨n, b, p, l, v, s, h1, h2⟩ := h
  exact ⟨n, b, p, l, v, s, h1, h2.mono (LiesS.below hb d) hb⟩
theorem LiesU.below {w w' : World} (hb : Below w.heap.size w w') (d : Nat) (cs : List Value) (x : Unt) (h : LiesU w d cs x) : LiesU w' d cs x := by
  obtain ⟨vi, vd, vb, li, lb, h1, h2, h3, h4⟩ := h
  exact ⟨vi, vd, vb, li, lb, h1, h2.mono (fun _ _ h => h) hb, h3.mono (LiesD.below hb d) hb, h4.mono (LiesB.below hb d) hb⟩
theorem LiesF.le {w : World} {d d' : Nat} {cs : List Value} {x : Fld} (h : LiesF w d cs x) (hd : d ≤ d') : LiesF w d' cs x := by
  obtain ⟨c0, c1, c2, c3, c4, h1, h2⟩ := h
  exact ⟨c0, c1, c2, c3, c4, h1, h2.le hd⟩
theorem LiesD.le {w : World} {d d' : Nat} {cs : List Value} {x : Dcl} (h : LiesD w d cs x) (hd : d ≤ d') : LiesD w d' cs x := by
  obtain ⟨c0, c1, c2, c3, c4, vf, h1, h2, h3⟩ := h
  exact ⟨c0, c1, c2, c3, c4, vf, h1, h2.le hd, h3.mono (fun _ _ h => h.le hd) (Below.refl _ _)⟩
theorem LiesB.le {w : World} {d d' : Nat} {cs : List Value} {x : Unit} (h : LiesB w d cs x) (hd : d ≤ d') : LiesB w d' cs x := by
  obtain ⟨n, b, p, l, v, s, h1, h2⟩ := h
  exact ⟨n, b, p, l, v, s, h1, h2.mono (fun _ _ h => h.le hd) (Below.refl _ _)⟩
theorem LiesU.le {w : World} {d d' : Nat} {cs : List Value} {x : Unt} (h : LiesU w d cs x) (hd : d ≤ d') : LiesU w d' cs x := by
  obtain ⟨vi, vd, vb, li, lb, h1, h2, h3, h4⟩ := h
  exact ⟨vi, vd, vb, li, lb, h1, h2, h3.mono (fun _ _ h => h.le hd) (Below.refl _ _), h4.mono (fun _ _ h => h.le hd) (Below.refl _ _)⟩
end Go.Proofs.Ytcelpmojhjnggaa
