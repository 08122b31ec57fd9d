/- What the frame of each law needs: a type that was handed in lies in memory; how great it is. -/
import Derived.Test.YtcelpmojhjnggaaK4
import Derived.Test.YtcelpmojhjnggaaRows
import Derived.ProofKit
import Derived.OpenShut
import Derived.ChangeOld
namespace Go.Proofs.Ytcelpmojhjnggaa
set_option maxRecDepth 100000
open Go Go.ChangeShapes Go.WideShapes Go.ChangeAt Go.RowKit KindsP

theorem list_choose {α β : Type} : ∀ (ys : List β) (Q : Nat → α → β → Prop), (∀ i y, ys[i]? = some y → ∃ x, Q i x y) → ∃ xs : List α, xs.length = ys.length ∧ ∀ i x y, xs[i]? = some x → ys[i]? = some y → Q i x y
  | [], _, _ => ⟨[], rfl, by simp⟩
  | y :: ys, Q, h => by
    obtain ⟨x, hx⟩ := h 0 y rfl
    obtain ⟨xs, hl, hq⟩ := list_choose ys (fun i => Q (i + 1)) (fun i y hy => h (i + 1) y (by simpa using hy))
    refine ⟨x :: xs, by simp [hl], fun i a b ha hb => ?_⟩
    cases i with
    | zero => simp at ha hb; subst ha hb; exact hx
    | succ i => exact hq i a b (by simpa using ha) (by simpa using hb)
theorem bulk_all {H : Type} : ∀ (l : List Ty) (es : List (DataW H × List MemPlace)), l.length = es.length → (∀ (i : Nat) (t : Ty) (y : DataW H × List MemPlace), l[i]? = some t → es[i]? = some y → bulkT t + 3 ≤ 30 * Rows.uptoBulk y.1) → bulkL l ≤ 30 * Rows.uptoBulkAll (es.map (·.1))
  | [], [], _, _ => by rw [bulkL]; omega
  | t :: l, y :: es, hl, h => by
    have h0 := h 0 t y rfl rfl
    have h1 := bulk_all l es (by simpa using hl) (fun i t y ht hy => h (i + 1) t y (by simpa using ht) (by simpa using hy))
    rw [bulkL, List.map_cons, Rows.uptoBulkAll]
    omega
  | [], _ :: _, hl, _ => by simp at hl
  | _ :: _, [], hl, _ => by simp at hl
theorem list5 {α : Type} {l : List α} (h : l.length = 5) : ∃ a b c d e, l = [a, b, c, d, e] := by
  match l, h with
  | [a, b, c, d, e], _ => exact ⟨a, b, c, d, e, rfl⟩
theorem cells31 : Try.prog.cellsOf 31 = 5 := by kernel_rfl
theorem cells3 : Try.prog.cellsOf 3 = 1 := by kernel_rfl
theorem cells9 : Try.prog.cellsOf 9 = 1 := by kernel_rfl
theorem cells23 : Try.prog.cellsOf 23 = 1 := by kernel_rfl

section
variable {H : Type} {enc : TypeId × Value → H} {W : World} {base : Nat} {held : Bool} {spare : Nat → Bool}
def OpensAt (f : Nat) (W : World) (enc : TypeId × Value → H) (base : Nat) (spare : Nat → Bool) (held : Bool) : Prop :=
  ∀ cs x, DataW.trod enc Try.prog W base spare held f 31 cs = some x → ∃ c0 c1 c2 c3 c4 t, cs = [c0, c1, c2, c3, c4] ∧ Lies W f (.agg #[c0, c1, c2, c3, c4]) t ∧ bulkT t + 3 ≤ 30 * Rows.uptoBulk x.1
theorem open_row_ty (f : Nat) (ih : ∀ g, g < f → OpensAt g W enc base spare held) (cs : List Value) (x : DataW H × List MemPlace) (h : DataW.trod enc Try.prog W base spare held f 23 cs = some x) :
    ∃ v l, cs = [v] ∧ RowOf (Lies W f) W v l ∧ bulkL l ≤ 30 * Rows.uptoBulk x.1 := by
  rcases DataW.trod_slice Try.underlying23 h with ⟨rfl, rfl⟩ | ⟨a, len, cap, elems, rest, n, rfl, rfl, rfl, hb, hlc, hcm, hel, hcell, _, _⟩
  · exact ⟨_, [], rfl, ⟨none, 0, rfl, by simp, by unfold maxLen; omega, .inl rfl⟩, by rw [bulkL]; omega⟩
  · obtain ⟨l, hll, hq⟩ := list_choose elems (fun i (t : Ty) y => (∃ b o c0 c1 c2 c3 c4, a.add (i * 5) = ⟨b, o, none⟩ ∧ Lies W n (.agg #[c0, c1, c2, c3, c4]) t ∧ Five W b o c0 c1 c2 c3 c4) ∧ bulkT t + 3 ≤ 30 * Rows.uptoBulk y.1) (by
      intro i y hy
      have hi : i < len := by rw [← hel]; exact (List.getElem?_eq_some_iff.1 hy).1
      have hc := hcell i hi
      rw [hy, cells31] at hc
      obtain ⟨cs, hcs, htr⟩ := Option.bind_eq_some_iff.1 hc
      obtain ⟨b, o, c0, c1, c2, c3, c4, hA, hcs5, hf⟩ := five_of_cells hcs
      subst hcs5
      obtain ⟨d0, d1, d2, d3, d4, t, he, hl, hbk⟩ := ih n (by omega) _ _ htr
      simp only [List.cons.injEq, and_true] at he
      obtain ⟨rfl, rfl, rfl, rfl, rfl⟩ := he
      exact ⟨t, ⟨b, o, _, _, _, _, _, hA, hl, hf⟩, hbk⟩)
    have hbk := bulk_all l elems hll (fun i t y ht hy => (hq i t y ht hy).2)
    refine ⟨_, l, rfl, ⟨some a, cap, by rw [hll, hel], by omega, hcm, ?_⟩, ?_⟩
    · by_cases hne : l = []
      · exact .inl hne
      · right
        have h0 : 0 < l.length := List.length_pos_iff.2 hne
        obtain ⟨⟨b, o, _, _, _, _, _, hA, _, _⟩, _⟩ := hq 0 l[0] (elems[0]'(by omega)) (List.getElem?_eq_getElem h0) (List.getElem?_eq_getElem (by omega))
        have ha : a = ⟨b, o, none⟩ := by rw [← hA]; unfold Addr.add; simp
        refine ⟨b, o, by rw [ha], fun i t ht => ?_⟩
        have hi : i < l.length := (List.getElem?_eq_some_iff.1 ht).1
        obtain ⟨⟨b', o', c0, c1, c2, c3, c4, hA', hl', hf'⟩, _⟩ := hq i t (elems[i]'(by omega)) ht (List.getElem?_eq_getElem (by omega))
        rw [ha, addr_add] at hA'
        simp only [Addr.mk.injEq, and_true] at hA'
        obtain ⟨rfl, rfl⟩ := hA'
        exact ⟨c0, c1, c2, c3, c4, hl'.le (by omega), hf'⟩
    · show _ ≤ 30 * Rows.uptoBulk (.slice _ _)
      rw [Rows.uptoBulk]
      omega
theorem opens (f : Nat) : OpensAt f W enc base spare held := by
  induction f using Nat.strongRecOn with
  | ind f ih =>
  intro cs x h
  obtain ⟨xs, n, rfl, rfl, hl, hlen, hf⟩ := DataW.trod_struct Try.underlying31 h
  rw [cells31] at hl
  obtain ⟨y0, y1, y2, y3, y4, rfl⟩ := list5 (show xs.length = 5 from hlen)
  obtain ⟨c0, c1, c2, c3, c4, rfl⟩ := list5 hl
  obtain ⟨k, e0, g0, _⟩ := DataW.trod_int Try.underlying3 (by have := hf 0 _ rfl; simpa [cells3] using this)
  obtain ⟨p, e1, g1, _⟩ := DataW.trod_string Try.underlying9 (by have := hf 1 _ rfl; simpa [cells9] using this)
  obtain ⟨q, e2, g2, _⟩ := DataW.trod_string Try.underlying9 (by have := hf 2 _ rfl; simpa [cells9] using this)
  obtain ⟨va, la, e3, ha, ba⟩ := open_row_ty n (fun g hg => ih g (by omega)) _ _ (by have := hf 3 _ rfl; simpa [cells23] using this)
  obtain ⟨vr, lr, e4, hr, br⟩ := open_row_ty n (fun g hg => ih g (by omega)) _ _ (by have := hf 4 _ rfl; simpa [cells23] using this)
  simp only [List.cons.injEq, and_true] at e0 e1 e2 e3 e4
  subst e0 e1 e2 e3 e4
  refine ⟨_, _, _, _, _, .mk k p q la lr, rfl, ⟨_, _, rfl, ha, hr⟩, ?_⟩
  rw [bulkT]
  show _ ≤ 30 * Rows.uptoBulk (.agg [y0.1, y1.1, y2.1, y3.1, y4.1])
  rw [Rows.uptoBulk]
  simp only [Rows.uptoBulkAll]
  have u0 : Rows.uptoBulk y0.1 = 1 := by rw [g0]; rfl
  have u1 : Rows.uptoBulk y1.1 = p.size + 1 := by rw [g1, Rows.uptoBulk]; show p.data.toList.length + 1 = p.data.size + 1; rw [Array.length_toList]
  have u2 : Rows.uptoBulk y2.1 = q.size + 1 := by rw [g2, Rows.uptoBulk]; show q.data.toList.length + 1 = q.data.size + 1; rw [Array.length_toList]
  omega
theorem open_ty {r : Reach} {b0 : Nat} {v : Value} {d : DataW H} {p : List MemPlace} (hv : Value.okWide Try.prog W r b0 31 v) (h : DataW.Trod enc Try.prog W base spare held 31 v d p) : ∃ D t, Lies W D v t ∧ bulkT t + 3 ≤ 30 * Rows.uptoBulk d := by
  obtain ⟨cs, rfl, hsz⟩ := okWide_struct Try.underlying31 hv
  obtain ⟨fuel, hf⟩ := h
  obtain ⟨c0, c1, c2, c3, c4, t, he, hl, hb⟩ := opens fuel _ _ hf
  have hcs : cs = #[c0, c1, c2, c3, c4] := by
    have : cs.toList = [c0, c1, c2, c3, c4] := by simpa [Value.cells] using he
    exact Array.toList_inj.1 (by rw [this])
  subst hcs
  exact ⟨fuel, t, hl, hb⟩
end
end Go.Proofs.Ytcelpmojhjnggaa
