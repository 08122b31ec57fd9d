/- Types in memory, in plain words. -/
import Derived.ProofKit
import Derived.Below
import Derived.Deep.Slices
import Derived.Lib.Hide
namespace KindsP
open Go Go.RowKit

/-- a type, as it is written -/
inductive Ty where
  | mk : Int → ByteArray → ByteArray → List Ty → List Ty → Ty

/-- the five cells of a type behind an address -/
structure Five (w : World) (b o : Nat) (c0 c1 c2 c3 c4 : Value) : Prop where
  c0 : w.cell? ⟨b, o, none⟩ = some c0
  c1 : w.cell? ⟨b, o + 1, none⟩ = some c1
  c2 : w.cell? ⟨b, o + 2, none⟩ = some c2
  c3 : w.cell? ⟨b, o + 3, none⟩ = some c3
  c4 : w.cell? ⟨b, o + 4, none⟩ = some c4
/-- a slice that holds types: each element's five cells, and what R says of them -/
def RowOf (R : Value → Ty → Prop) (w : World) (v : Value) (l : List Ty) : Prop :=
  ∃ a c, v = .slice a l.length c ∧ l.length ≤ c ∧ c ≤ maxLen ∧ (l = [] ∨ ∃ b o, a = some ⟨b, o, none⟩ ∧ ∀ i x, l[i]? = some x → ∃ c0 c1 c2 c3 c4, R (.agg #[c0, c1, c2, c3, c4]) x ∧ Five w b (o + i * 5) c0 c1 c2 c3 c4)
/-- a type lies in memory, no deeper than d -/
def Lies (w : World) : Nat → Value → Ty → Prop
  | 0, _, _ => False
  | d + 1, v, .mk k p n la lr => ∃ va vr, v = .agg #[.int .i64 k, .string p, .string n, va, vr] ∧ RowOf (Lies w d) w va la ∧ RowOf (Lies w d) w vr lr

theorem Five.below {w w' : World} {b o : Nat} {c0 c1 c2 c3 c4 : Value} (h : Five w b o c0 c1 c2 c3 c4) (hb : Below w.heap.size w w') : Five w' b o c0 c1 c2 c3 c4 := by
  have hlt : b < w.heap.size := World.block_lt_of_cell? w _ h.c0
  exact ⟨(hb.cell (p := ⟨b, o, none⟩) hlt).trans h.c0, (hb.cell (p := ⟨b, o + 1, none⟩) hlt).trans h.c1, (hb.cell (p := ⟨b, o + 2, none⟩) hlt).trans h.c2, (hb.cell (p := ⟨b, o + 3, none⟩) hlt).trans h.c3, (hb.cell (p := ⟨b, o + 4, none⟩) hlt).trans h.c4⟩
theorem RowOf.mono {R R' : Value → Ty → Prop} {w w' : World} {v : Value} {l : List Ty} (h : RowOf R w v l) (hR : ∀ v t, R v t → R' v t) (hb : Below w.heap.size w w') : RowOf R' w' v l := by
  obtain ⟨a, c, h1, h2, h3, h4⟩ := h
  refine ⟨a, c, h1, h2, h3, ?_⟩
  rcases h4 with h4 | ⟨b, o, h5, h6⟩
  · exact .inl h4
  · refine .inr ⟨b, o, h5, fun i x hx => ?_⟩
    obtain ⟨c0, c1, c2, c3, c4, hr, hf⟩ := h6 i x hx
    exact ⟨c0, c1, c2, c3, c4, hR _ _ hr, hf.below hb⟩
theorem Lies.below {w w' : World} (hb : Below w.heap.size w w') : ∀ (d : Nat) (v : Value) (t : Ty), Lies w d v t → Lies w' d v t
  | 0, _, _, h => h.elim
  | d + 1, _, .mk _ _ _ _ _, ⟨va, vr, h1, h2, h3⟩ => ⟨va, vr, h1, h2.mono (Lies.below hb d) hb, h3.mono (Lies.below hb d) hb⟩
theorem Lies.deeper {w : World} : ∀ (d : Nat) (v : Value) (t : Ty), Lies w d v t → Lies w (d + 1) v t
  | 0, _, _, h => h.elim
  | d + 1, _, .mk _ _ _ _ _, ⟨va, vr, h1, h2, h3⟩ => ⟨va, vr, h1, h2.mono (Lies.deeper d) (Below.refl _ _), h3.mono (Lies.deeper d) (Below.refl _ _)⟩
theorem Lies.le {w : World} {d d' : Nat} {v : Value} {t : Ty} (h : Lies w d v t) (hd : d ≤ d') : Lies w d' v t := by
  induction hd with
  | refl => exact h
  | step _ ih => exact Lies.deeper _ _ _ ih
theorem RowOf.below {w w' : World} {d : Nat} {v : Value} {l : List Ty} (h : RowOf (Lies w d) w v l) (hb : Below w.heap.size w w') : RowOf (Lies w' d) w' v l := h.mono (Lies.below hb d) hb
theorem RowOf.le {w : World} {d d' : Nat} {v : Value} {l : List Ty} (h : RowOf (Lies w d) w v l) (hd : d ≤ d') : RowOf (Lies w d') w v l := h.mono (fun _ _ h => h.le hd) (Below.refl _ _)
/-- one element of a row -/
theorem RowOf.get {R : Value → Ty → Prop} {w : World} {b o : Nat} {n c : Nat} {l : List Ty} (h : RowOf R w (.slice (some ⟨b, o, none⟩) n c) l) (i : Nat) (x : Ty) (hx : l[i]? = some x) :
    ∃ c0 c1 c2 c3 c4, R (.agg #[c0, c1, c2, c3, c4]) x ∧ Five w b (o + i * 5) c0 c1 c2 c3 c4 := by
  obtain ⟨a, c', h1, _, _, h4⟩ := h
  rcases h4 with h4 | ⟨b', o', h5, h6⟩
  · subst h4; simp at hx
  · subst h5
    simp only [Value.slice.injEq, Option.some.injEq, Addr.mk.injEq] at h1
    obtain ⟨⟨rfl, rfl, _⟩, _, _⟩ := h1
    exact h6 i x hx
/-- the form of a row's value -/
theorem RowOf.form {R : Value → Ty → Prop} {w : World} {v : Value} {l : List Ty} (h : RowOf R w v l) : ∃ a c, v = .slice a l.length c ∧ l.length ≤ c ∧ c ≤ maxLen ∧ (0 < l.length → ∃ b o, a = some ⟨b, o, none⟩) := by
  obtain ⟨a, c, h1, h2, h3, h4⟩ := h
  refine ⟨a, c, h1, h2, h3, fun hl => ?_⟩
  rcases h4 with rfl | ⟨b, o, h5, _⟩
  · simp at hl
  · exact ⟨b, o, h5⟩

/-! ### What a type read is -/
section
variable {P : Program} {H : Type} {enc : TypeId × Value → H} {W : World} {τ σ s i : TypeId}
theorem addr_add (b o k : Nat) : (⟨b, o, none⟩ : Addr).add k = ⟨b, o + k, none⟩ := by
  unfold Addr.add
  split <;> simp_all
theorem five_of_cells {base : Nat} {A : Addr} {cs : List Value} (h : W.cells? base A 5 = some cs) : ∃ b o c0 c1 c2 c3 c4, A = ⟨b, o, none⟩ ∧ cs = [c0, c1, c2, c3, c4] ∧ Five W b o c0 c1 c2 c3 c4 := by
  obtain ⟨_, hl, hc⟩ := World.cells?_some h
  obtain ⟨b, o, sp⟩ := A
  match cs, hl with
  | [c0, c1, c2, c3, c4], _ =>
    have h0 : W.cell? ⟨b, o, sp⟩ = some c0 := by
      have := hc 0 (by omega)
      rw [show (⟨b, o, sp⟩ : Addr).add 0 = ⟨b, o, sp⟩ by unfold Addr.add; simp] at this
      simpa using this
    have hs : sp = none := by
      cases sp with
      | none => rfl
      | some q => unfold World.cell? at h0; split at h0 <;> simp at h0
    subst hs
    have g : ∀ j, j < 5 → W.cell? ⟨b, o + j, none⟩ = [c0, c1, c2, c3, c4][j]? := fun j hj => by have := hc j hj; rwa [addr_add] at this
    exact ⟨b, o, c0, c1, c2, c3, c4, rfl, rfl, g 0 (by omega), g 1 (by omega), g 2 (by omega), g 3 (by omega), g 4 (by omega)⟩
end
end KindsP
