/- What the frame of each law needs: a type that was handed in lies in memory; how great it is. -/
import Derived.Test.YtcelpmojhjnggaaI03
import Derived.Test.YtcelpmojhjnggaaRows
import Derived.ProofKit
import Derived.OpenShut
import Derived.ChangeOld
import Derived.Test.YtcelpmojhjnggaaI05
namespace Go.Proofs.Ytcelpmojhjnggaa
set_option maxRecDepth 100000
open Go Go.ChangeShapes Go.WideShapes Go.ChangeAt Go.RowKit KindsP

theorem list_choose {α β : Type} : ∀ (ys : List β) (Q : Nat → α → β → Prop), (∀ i y, ys[i]? = some y → ∃ x, Q i x y) → ∃ xs : List α, xs.length = ys.length ∧ ∀ i x y, xs[i]? = some x → ys[i]? = some y → Q i x y
  | [], _, _ => ⟨[], rfl, by simp⟩
  | y :: ys, Q, h => by
    obtain ⟨x, hx⟩ := h 0 y rfl
    obtain ⟨xs, hl, hq⟩ := list_choose ys (fun i => Q (i + 1)) (fun i y hy => h (i + 1) y (by simpa using hy))
    refine ⟨x :: xs, by simp [hl], fun i a b ha hb => ?_⟩
    cases i with
    | zero => simp at ha hb; subst ha hb; exact hx
    | succ i => exact hq i a b (by simpa using ha) (by simpa using hb)
theorem bulk_all {H : Type} : ∀ (l : List Ty) (es : List (DataW H × List MemPlace)), l.length = es.length → (∀ (i : Nat) (t : Ty) (y : DataW H × List MemPlace), l[i]? = some t → es[i]? = some y → bulkT t + 3 ≤ 30 * Rows.uptoBulk y.1) → bulkL l ≤ 30 * Rows.uptoBulkAll (es.map (·.1))
  | [], [], _, _ => by rw [bulkL]; omega
  | t :: l, y :: es, hl, h => by
    have h0 := h 0 t y rfl rfl
    have h1 := bulk_all l es (by simpa using hl) (fun i t y ht hy => h (i + 1) t y (by simpa using ht) (by simpa using hy))
    rw [bulkL, List.map_cons, Rows.uptoBulkAll]
    omega
  | [], _ :: _, hl, _ => by simp at hl
  | _ :: _, [], hl, _ => by simp at hl
theorem list5 {α : Type} {l : List α} (h : l.length = 5) : ∃ a b c d e, l = [a, b, c, d, e] := by
  match l, h with
  | [a, b, c, d, e], _ => exact ⟨a, b, c, d, e, rfl⟩
theorem cells31 : Try.prog.cellsOf 31 = 5 := by kernel_rfl
theorem cells3 : Try.prog.cellsOf 3 = 1 := by kernel_rfl
theorem cells9 : Try.prog.cellsOf 9 = 1 := by kernel_rfl
theorem cells23 : Try.prog.cellsOf 23 = 1 := by kernel_rfl

section
variable {H : Type} {enc : TypeId × Value → H} {W : World} {base : Nat} {held : Bool} {spare : Nat → Bool}
def OpensAt (f : Nat) (W : World) (enc : TypeId × Value → H) (base : Nat) (spare : Nat → Bool) (held : Bool) : Prop :=
  ∀ cs x, DataW.trod enc Try.prog W base spare held f 31 cs = some x → ∃ c0 c1 c2 c3 c4 t, cs = [c0, c1, c2, c3, c4] ∧ Lies W f (.agg #[c0, c1, c2, c3, c4]) t ∧ bulkT t + 3 ≤ 30 * Rows.uptoBulk x.1
theorem open_row_ty (f : Nat) (ih : ∀ g, g < f → OpensAt g W enc base spare held) (cs : List Value) (x : DataW H × List MemPlace) (h : DataW.trod enc Try.prog W base spare held f 23 cs = some x) :
    ∃ v l, cs = [v] ∧ RowOf (Lies W f) W v l ∧ bulkL l ≤ 30 * Rows.uptoBulk x.1 := by
  rcases DataW.trod_slice Try.underlying23 h with ⟨rfl, rfl⟩ | ⟨a, len, cap, elems, rest, n, rfl, rfl, rfl, hb, hlc, hcm, hel, hcell, _, _⟩
  · exact ⟨_, [], rfl, ⟨none, 0, rfl, by simp, by unfold maxLen; omega, .inl rfl⟩, by rw [bulkL]; omega⟩
  · obtain ⟨l, hll, hq⟩ := list_choose elems (fun i (t : Ty) y => (∃ b o c0 c1 c2 c3 c4, a.add (i * 5) = ⟨b, o, none⟩ ∧ Lies W n (.agg #[c0, c1, c2, c3, c4]) t ∧ Five W b o c0 c1 c2 c3 c4) ∧ bulkT t + 3 ≤ 30 * Rows.uptoBulk y.1) (by
      intro i y hy
      have hi : i < len := by rw [← hel]; exact (List.getElem?_eq_some_iff.1 hy).1
      have hc := hcell i hi
      rw [hy, cells31] at hc
      obtain ⟨cs, hcs, htr⟩ := Option.bind_eq_some_iff.1 hc
      obtain ⟨b, o, c0, c1, c2, c3, c4, hA, hcs5, hf⟩ := five_of_cells hcs
      subst hcs5
      obtain ⟨d0, d1, d2, d3, d4, t, he, hl, hbk⟩ := ih n (by omega) _ _ htr
      simp only [List.cons.injEq, and_true] at he
      obtain ⟨rfl, rfl, rfl, rfl, rfl⟩ := he
      exact ⟨t, ⟨b, o, _, _, _, _, _, hA, hl, hf⟩, hbk⟩)
    have hbk := bulk_all l elems hll (fun i t y ht hy => (hq i t y ht hy).2)
    refine ⟨_, l, rfl, ⟨some a, cap, by rw [hll, hel], by omega, hcm, ?_⟩, ?_⟩
    · by_cases hne : l = []
      · exact .inl hne
      · right
        have h0 : 0 < l.length := List.length_pos_iff.2 hne
        obtain ⟨⟨b, o, _, _, _, _, _, hA, _, _⟩, _⟩ := hq 0 l[0] (elems[0]'(by omega)) (List.getElem?_eq_getElem h0) (List.getElem?_eq_getElem (by omega))
        have ha : a = ⟨b, o, none⟩ := by rw [← hA]; unfold Addr.add; simp
        refine ⟨b, o, by rw [ha], fun i t ht => ?_⟩
        have hi : i < l.length := (List.getElem?_eq_some_iff.1 ht).1
        obtain ⟨⟨b', o', c0, c1, c2, c3, c4, hA', hl', hf'⟩, _⟩ := hq i t (elems[i]'(by omega)) ht (List.getElem?_eq_getElem (by omega))
        rw [ha, addr_add] at hA'
        simp only [Addr.mk.injEq, and_true] at hA'
        obtain ⟨rfl, rfl⟩ := hA'
        exact ⟨c0, c1, c2, c3, c4, hl'.le (by omega), hf'⟩
    · show _ ≤ 30 * Rows.uptoBulk (.slice _ _)
      rw [Rows.uptoBulk]
      omega
theorem opens (f : Nat) : OpensAt f W enc base spare held := by
  induction f using Nat.strongRecOn with
  | ind f ih =>
  intro cs x h
  obtain ⟨xs, n, rfl, rfl, hl, hlen, hf⟩ := DataW.trod_struct Try.underlying31 h
  rw [cells31] at hl
  obtain ⟨y0, y1, y2, y3, y4, rfl⟩ := list5 (show xs.length = 5 from hlen)
  obtain ⟨c0, c1, c2, c3, c4, rfl⟩ := list5 hl
  obtain ⟨k, e0, g0, _⟩ := DataW.trod_int Try.underlying3 (by have := hf 0 _ rfl; simpa [cells3] using this)
  obtain ⟨p, e1, g1, _⟩ := DataW.trod_string Try.underlying9 (by have := hf 1 _ rfl; simpa [cells9] using this)
  obtain ⟨q, e2, g2, _⟩ := DataW.trod_string Try.underlying9 (by have := hf 2 _ rfl; simpa [cells9] using this)
  obtain ⟨va, la, e3, ha, ba⟩ := open_row_ty n (fun g hg => ih g (by omega)) _ _ (by have := hf 3 _ rfl; simpa [cells23] using this)
  obtain ⟨vr, lr, e4, hr, br⟩ := open_row_ty n (fun g hg => ih g (by omega)) _ _ (by have := hf 4 _ rfl; simpa [cells23] using this)
  simp only [List.cons.injEq, and_true] at e0 e1 e2 e3 e4
  subst e0 e1 e2 e3 e4
  refine ⟨_, _, _, _, _, .mk k p q la lr, rfl, ⟨_, _, rfl, ha, hr⟩, ?_⟩
  rw [bulkT]
  show _ ≤ 30 * Rows.uptoBulk (.agg [y0.1, y1.1, y2.1, y3.1, y4.1])
  rw [Rows.uptoBulk]
  simp only [Rows.uptoBulkAll]
  have u0 : Rows.uptoBulk y0.1 = 1 := by rw [g0]; rfl
  have u1 : Rows.uptoBulk y1.1 = p.size + 1 := by rw [g1, Rows.uptoBulk]; show p.data.toList.length + 1 = p.data.size + 1; rw [Array.length_toList]
  have u2 : Rows.uptoBulk y2.1 = q.size + 1 := by rw [g2, Rows.uptoBulk]; show q.data.toList.length + 1 = q.data.size + 1; rw [Array.length_toList]
  omega
theorem open_ty {r : Reach} {b0 : Nat} {v : Value} {d : DataW H} {p : List MemPlace} (hv : Value.okWide Try.prog W r b0 31 v) (h : DataW.Trod enc Try.prog W base spare held 31 v d p) : ∃ D t, Lies W D v t ∧ bulkT t + 3 ≤ 30 * Rows.uptoBulk d := by
  obtain ⟨cs, rfl, hsz⟩ := okWide_struct Try.underlying31 hv
  obtain ⟨fuel, hf⟩ := h
  obtain ⟨c0, c1, c2, c3, c4, t, he, hl, hb⟩ := opens fuel _ _ hf
  have hcs : cs = #[c0, c1, c2, c3, c4] := by
    have : cs.toList = [c0, c1, c2, c3, c4] := by simpa [Value.cells] using he
    exact Array.toList_inj.1 (by rw [this])
  subst hcs
  exact ⟨fuel, t, hl, hb⟩
end
end Go.Proofs.Ytcelpmojhjnggaa

/- What the frame of each law with units needs: units and fields that were handed in lie in memory. -/
namespace Go.Proofs.Ytcelpmojhjnggaa
set_option maxRecDepth 100000
open Go Go.ChangeShapes Go.WideShapes Go.ChangeAt Go.RowKit KindsP

theorem cells2 : Try.prog.cellsOf 2 = 1 := by kernel_rfl
theorem cells4 : Try.prog.cellsOf 4 = 1 := by kernel_rfl
theorem cells39 : Try.prog.cellsOf 39 = 1 := by kernel_rfl
theorem cells41 : Try.prog.cellsOf 41 = 10 := by kernel_rfl
theorem cells52 : Try.prog.cellsOf 52 = 6 := by kernel_rfl
theorem cells70 : Try.prog.cellsOf 70 = 1 := by kernel_rfl
theorem cells71 : Try.prog.cellsOf 71 = 1 := by kernel_rfl
theorem cells72 : Try.prog.cellsOf 72 = 1 := by kernel_rfl
theorem cells74 : Try.prog.cellsOf 74 = 4 := by kernel_rfl
theorem cells101 : Try.prog.cellsOf 101 = 1 := by kernel_rfl
theorem cells103 : Try.prog.cellsOf 103 = 5 := by kernel_rfl
theorem cells109 : Try.prog.cellsOf 109 = 1 := by kernel_rfl
theorem cells111 : Try.prog.cellsOf 111 = 5 := by kernel_rfl
theorem cells118 : Try.prog.cellsOf 118 = 4 := by kernel_rfl
theorem list2 {α : Type} {l : List α} (h : l.length = 2) : ∃ a b, l = [a, b] := by
  match l, h with
  | [a, b], _ => exact ⟨a, b, rfl⟩
theorem list4 {α : Type} {l : List α} (h : l.length = 4) : ∃ a b c d, l = [a, b, c, d] := by
  match l, h with
  | [a, b, c, d], _ => exact ⟨a, b, c, d, rfl⟩
theorem list6 {α : Type} {l : List α} (h : l.length = 6) : ∃ a b c d e f, l = [a, b, c, d, e, f] := by
  match l, h with
  | [a, b, c, d, e, f], _ => exact ⟨a, b, c, d, e, f, rfl⟩
theorem list10 {α : Type} {l : List α} (h : l.length = 10) : ∃ a b c d e f g i j k, l = [a, b, c, d, e, f, g, i, j, k] := by
  match l, h with
  | [a, b, c, d, e, f, g, i, j, k], _ => exact ⟨a, b, c, d, e, f, g, i, j, k, rfl⟩

section
variable {H : Type} {enc : TypeId × Value → H} {W : World} {base : Nat} {held : Bool} {spare : Nat → Bool}
theorem open_rowG {α : Type} {ts t n : Nat} (hu : Try.prog.underlying ts = some (.slice t)) (hc : Try.prog.cellsOf t = n) (hn : 0 < n) (R : Nat → List Value → α → Prop) (hR : ∀ g f cs x, g ≤ f → R g cs x → R f cs x) (f : Nat)
    (ih : ∀ g, g < f → ∀ cs x, DataW.trod enc Try.prog W base spare held g t cs = some x → ∃ y, R g cs y) (cs : List Value) (x : DataW H × List MemPlace) (h : DataW.trod enc Try.prog W base spare held f ts cs = some x) :
    ∃ v, ∃ l : List α, cs = [v] ∧ RowG n (R f) W v l := by
  rcases DataW.trod_slice hu h with ⟨rfl, rfl⟩ | ⟨a, len, cap, elems, rest, m, rfl, rfl, rfl, hb, hlc, hcm, hel, hcell, _, _⟩
  · exact ⟨_, [], rfl, RowG.nil _ _ _⟩
  · obtain ⟨l, hll, hq⟩ := list_choose elems (fun i (y : α) _ => ∃ cs : List Value, cs.length = n ∧ R m cs y ∧ ∀ j, j < n → W.cell? ((a.add (i * n)).add j) = cs[j]?) (by
      intro i y hy
      have hi : i < len := by rw [← hel]; exact (List.getElem?_eq_some_iff.1 hy).1
      have hc' := hcell i hi
      rw [hy, hc] at hc'
      obtain ⟨cs, hcs, htr⟩ := Option.bind_eq_some_iff.1 hc'
      obtain ⟨_, hlen, hj⟩ := World.cells?_some hcs
      obtain ⟨y, hy'⟩ := ih m (by omega) _ _ htr
      exact ⟨y, cs, hlen, hy', hj⟩)
    refine ⟨_, l, rfl, some a, cap, by rw [hll, hel], by omega, hcm, ?_⟩
    by_cases hne : l = []
    · exact .inl hne
    · right
      have h0 : 0 < l.length := List.length_pos_iff.2 hne
      have hpl : a.spot = none := by
        obtain ⟨cs, hlen, _, hj⟩ := hq 0 l[0] (elems[0]'(by omega)) (List.getElem?_eq_getElem h0) (List.getElem?_eq_getElem (by omega))
        have := hj 0 hn
        rw [List.getElem?_eq_getElem (by omega)] at this
        rw [show (a.add (0 * n)).add 0 = a by unfold Addr.add; simp] at this
        cases hs : a.spot with
        | none => rfl
        | some q => unfold World.cell? at this; rw [hs] at this; split at this <;> simp at this
      obtain ⟨b, o, sp⟩ := a
      obtain rfl : sp = none := hpl
      refine ⟨b, o, rfl, fun i t ht => ?_⟩
      have hi : i < l.length := (List.getElem?_eq_some_iff.1 ht).1
      obtain ⟨cs, hlen, hr, hj⟩ := hq i t (elems[i]'(by omega)) ht (List.getElem?_eq_getElem (by omega))
      refine ⟨cs, hR _ _ _ _ (by omega) hr, fun j u hu => ?_⟩
      have hjn : j < n := by rw [← hlen]; exact (List.getElem?_eq_some_iff.1 hu).1
      have := hj j hjn
      rw [addr_add, addr_add] at this
      rw [this, hu]

theorem open_E (f : Nat) : ∀ cs x, DataW.trod enc Try.prog W base spare held f 118 cs = some x → ∃ y, LiesE W f cs y := by
  induction f using Nat.strongRecOn with
  | ind f ih =>
  intro cs x h
  obtain ⟨xs, n, rfl, rfl, hl, hlen, hf⟩ := DataW.trod_struct Try.underlying118 h
  rw [cells118] at hl
  obtain ⟨y0, y1, y2, y3, rfl⟩ := list4 (show xs.length = 4 from hlen)
  obtain ⟨c0, c1, c2, c3, rfl⟩ := list4 hl
  obtain ⟨k, e0, _, _⟩ := DataW.trod_int Try.underlying3 (by have := hf 0 _ rfl; simpa [cells3] using this)
  obtain ⟨m, e1, _, _⟩ := DataW.trod_int Try.underlying2 (by have := hf 1 _ rfl; simpa [cells2] using this)
  obtain ⟨s, e2, _, _⟩ := DataW.trod_string Try.underlying9 (by have := hf 2 _ rfl; simpa [cells9] using this)
  obtain ⟨v, l, e3, hr⟩ := open_rowG (enc := enc) (base := base) (held := held) (spare := spare) Try.underlying109 cells118 (by omega) (fun g => LiesE W g) (fun g f cs x hgf h => h.le hgf) n (fun g hg => ih g (by omega)) _ _ (by have := hf 3 _ rfl; simpa [cells109] using this)
  simp only [List.cons.injEq, and_true] at e0 e1 e2 e3
  subst e0 e1 e2 e3
  exact ⟨(), _, _, _, _, l, rfl, hr⟩
theorem open_S (f : Nat) : ∀ cs x, DataW.trod enc Try.prog W base spare held f 111 cs = some x → ∃ y, LiesS W f cs y := by
  induction f using Nat.strongRecOn with
  | ind f ih =>
  intro cs x h
  obtain ⟨xs, n, rfl, rfl, hl, hlen, hf⟩ := DataW.trod_struct Try.underlying111 h
  rw [cells111] at hl
  obtain ⟨y0, y1, y2, y3, y4, rfl⟩ := list5 (show xs.length = 5 from hlen)
  obtain ⟨c0, c1, c2, c3, c4, rfl⟩ := list5 hl
  obtain ⟨k, e0, _, _⟩ := DataW.trod_int Try.underlying3 (by have := hf 0 _ rfl; simpa [cells3] using this)
  obtain ⟨m, e1, _, _⟩ := DataW.trod_int Try.underlying2 (by have := hf 1 _ rfl; simpa [cells2] using this)
  obtain ⟨v2, l2, e2, hr2⟩ := open_rowG (enc := enc) (base := base) (held := held) (spare := spare) Try.underlying109 cells118 (by omega) (fun g => LiesE W g) (fun g f cs x hgf h => h.le hgf) n (fun g hg => open_E g) _ _ (by have := hf 2 _ rfl; simpa [cells109] using this)
  obtain ⟨v3, l3, e3, hr3⟩ := open_rowG (enc := enc) (base := base) (held := held) (spare := spare) Try.underlying101 cells111 (by omega) (fun g => LiesS W g) (fun g f cs x hgf h => h.le hgf) n (fun g hg => ih g (by omega)) _ _ (by have := hf 3 _ rfl; simpa [cells101] using this)
  obtain ⟨v4, l4, e4, hr4⟩ := open_rowG (enc := enc) (base := base) (held := held) (spare := spare) Try.underlying101 cells111 (by omega) (fun g => LiesS W g) (fun g f cs x hgf h => h.le hgf) n (fun g hg => ih g (by omega)) _ _ (by have := hf 4 _ rfl; simpa [cells101] using this)
  simp only [List.cons.injEq, and_true] at e0 e1 e2 e3 e4
  subst e0 e1 e2 e3 e4
  exact ⟨(), _, _, _, _, _, l2, l3, l4, rfl, hr2, hr3, hr4⟩
theorem open_B (f : Nat) : ∀ cs x, DataW.trod enc Try.prog W base spare held f 103 cs = some x → ∃ y, LiesB W f cs y := by
  intro cs x h
  obtain ⟨xs, n, rfl, rfl, hl, hlen, hf⟩ := DataW.trod_struct Try.underlying103 h
  rw [cells103] at hl
  obtain ⟨y0, y1, y2, y3, y4, rfl⟩ := list5 (show xs.length = 5 from hlen)
  obtain ⟨c0, c1, c2, c3, c4, rfl⟩ := list5 hl
  obtain ⟨k, e0, _, _⟩ := DataW.trod_string Try.underlying9 (by have := hf 0 _ rfl; simpa [cells9] using this)
  obtain ⟨b, e1, _⟩ := DataW.trod_bool Try.underlying4 (by have := hf 1 _ rfl; simpa [cells4] using this)
  obtain ⟨p, e2, _, _⟩ := DataW.trod_int Try.underlying3 (by have := hf 2 _ rfl; simpa [cells3] using this)
  obtain ⟨q, e3, _, _⟩ := DataW.trod_int Try.underlying3 (by have := hf 3 _ rfl; simpa [cells3] using this)
  obtain ⟨v4, l4, e4, hr4⟩ := open_rowG (enc := enc) (base := base) (held := held) (spare := spare) Try.underlying101 cells111 (by omega) (fun g => LiesS W g) (fun g f cs x hgf h => h.le hgf) n (fun g hg => open_S g) _ _ (by have := hf 4 _ rfl; simpa [cells101] using this)
  simp only [List.cons.injEq, and_true] at e0 e1 e2 e3 e4
  subst e0 e1 e2 e3 e4
  exact ⟨(), _, _, _, _, _, l4, rfl, hr4.mono (fun _ _ h => h.le (Nat.le_succ _)) (Below.refl _ _)⟩
theorem open_F (f : Nat) : ∀ cs x, DataW.trod enc Try.prog W base spare held f 52 cs = some x → ∃ y, LiesF W f cs y := by
  intro cs x h
  obtain ⟨xs, n, rfl, rfl, hl, hlen, hf⟩ := DataW.trod_struct Try.underlying52 h
  rw [cells52] at hl
  obtain ⟨y0, y1, rfl⟩ := list2 (show xs.length = 2 from hlen)
  obtain ⟨c0, c1, c2, c3, c4, c5, rfl⟩ := list6 hl
  obtain ⟨s, e0, _, _⟩ := DataW.trod_string Try.underlying9 (by have := hf 0 _ rfl; simpa [cells9] using this)
  obtain ⟨d0, d1, d2, d3, d4, t, e1, ht, _⟩ := opens n _ _ (by have := hf 1 _ rfl; simpa [cells31] using this)
  simp only [List.cons.injEq, and_true] at e0 e1
  obtain ⟨rfl, rfl, rfl, rfl, rfl⟩ := e1
  subst e0
  exact ⟨⟨s, t⟩, _, _, _, _, _, rfl, ht.le (Nat.le_succ _)⟩
theorem open_D (f : Nat) : ∀ cs x, DataW.trod enc Try.prog W base spare held f 41 cs = some x → ∃ y, LiesD W f cs y := by
  intro cs x h
  obtain ⟨xs, n, rfl, rfl, hl, hlen, hf⟩ := DataW.trod_struct Try.underlying41 h
  rw [cells41] at hl
  obtain ⟨y0, y1, y2, y3, y4, y5, rfl⟩ := list6 (show xs.length = 6 from hlen)
  obtain ⟨c0, c1, c2, c3, c4, c5, c6, c7, c8, c9, rfl⟩ := list10 hl
  obtain ⟨k, e0, _, _⟩ := DataW.trod_int Try.underlying3 (by have := hf 0 _ rfl; simpa [cells3] using this)
  obtain ⟨s, e1, _, _⟩ := DataW.trod_string Try.underlying9 (by have := hf 1 _ rfl; simpa [cells9] using this)
  obtain ⟨s2, e2, _, _⟩ := DataW.trod_string Try.underlying9 (by have := hf 2 _ rfl; simpa [cells9] using this)
  obtain ⟨m, e3, _, _⟩ := DataW.trod_int Try.underlying2 (by have := hf 3 _ rfl; simpa [cells2] using this)
  obtain ⟨d0, d1, d2, d3, d4, t, e4, ht, _⟩ := opens n _ _ (by have := hf 4 _ rfl; simpa [cells31] using this)
  obtain ⟨v, l, e5, hr⟩ := open_rowG (enc := enc) (base := base) (held := held) (spare := spare) Try.underlying39 cells52 (by omega) (fun g => LiesF W g) (fun g f cs x hgf h => h.le hgf) n (fun g hg => open_F g) _ _ (by have := hf 5 _ rfl; simpa [cells39] using this)
  simp only [List.cons.injEq, and_true] at e0 e1 e2 e3 e4 e5
  obtain ⟨rfl, rfl, rfl, rfl, rfl⟩ := e4
  subst e0 e1 e2 e3 e5
  exact ⟨⟨k, s, s2, m, t, l⟩, _, _, _, _, _, _, rfl, ht.le (Nat.le_succ _), hr.mono (fun _ _ h => h.le (Nat.le_succ _)) (Below.refl _ _)⟩
theorem open_U (f : Nat) : ∀ cs x, DataW.trod enc Try.prog W base spare held f 74 cs = some x → ∃ y, LiesU W f cs y := by
  intro cs x h
  obtain ⟨xs, n, rfl, rfl, hl, hlen, hf⟩ := DataW.trod_struct Try.underlying74 h
  rw [cells74] at hl
  obtain ⟨y0, y1, y2, y3, rfl⟩ := list4 (show xs.length = 4 from hlen)
  obtain ⟨c0, c1, c2, c3, rfl⟩ := list4 hl
  obtain ⟨s, e0, _, _⟩ := DataW.trod_string Try.underlying9 (by have := hf 0 _ rfl; simpa [cells9] using this)
  obtain ⟨v1, l1, e1, hr1⟩ := open_rowG (α := Unit) (enc := enc) (base := base) (held := held) (spare := spare) Try.underlying70 (rfl : Try.prog.cellsOf _ = Try.prog.cellsOf _) (by decide +kernel) (fun _ _ _ => True) (fun g f cs x hgf h => h) n (fun g hg _ _ _ => ⟨(), trivial⟩) _ _ (by have := hf 1 _ rfl; simpa [cells70] using this)
  obtain ⟨v2, l2, e2, hr2⟩ := open_rowG (enc := enc) (base := base) (held := held) (spare := spare) Try.underlying71 cells41 (by omega) (fun g => LiesD W g) (fun g f cs x hgf h => h.le hgf) n (fun g hg => open_D g) _ _ (by have := hf 2 _ rfl; simpa [cells71] using this)
  obtain ⟨v3, l3, e3, hr3⟩ := open_rowG (enc := enc) (base := base) (held := held) (spare := spare) Try.underlying72 cells103 (by omega) (fun g => LiesB W g) (fun g f cs x hgf h => h.le hgf) n (fun g hg => open_B g) _ _ (by have := hf 3 _ rfl; simpa [cells72] using this)
  simp only [List.cons.injEq, and_true] at e0 e1 e2 e3
  subst e0 e1 e2 e3
  exact ⟨⟨s, l2⟩, _, _, _, l1, l3, rfl, hr1, hr2.mono (fun _ _ h => h.le (Nat.le_succ _)) (Below.refl _ _), hr3.mono (fun _ _ h => h.le (Nat.le_succ _)) (Below.refl _ _)⟩
theorem open_units {r : Reach} {b0 : Nat} {v : Value} {d : DataW H} {p : List MemPlace} (hv : Value.okWide Try.prog W r b0 37 v) (h : DataW.Trod enc Try.prog W base spare held 37 v d p) : ∃ D, ∃ l : List Unt, RowG 4 (LiesU W D) W v l := by
  obtain ⟨a, n, c, rfl⟩ := okWide_slice Try.underlying37 hv
  obtain ⟨fuel, hf⟩ := h
  obtain ⟨v', l, he, hr⟩ := open_rowG Try.underlying37 cells74 (by omega) (fun g => LiesU W g) (fun g f cs x hgf h => h.le hgf) fuel (fun g _ => open_U g) _ _ hf
  have : v' = .slice a n c := by simpa [Value.cells] using he.symm
  subst this
  exact ⟨fuel, l, hr⟩
theorem open_fields {r : Reach} {b0 : Nat} {v : Value} {d : DataW H} {p : List MemPlace} (hv : Value.okWide Try.prog W r b0 39 v) (h : DataW.Trod enc Try.prog W base spare held 39 v d p) : ∃ D, ∃ l : List Fld, RowG 6 (LiesF W D) W v l := by
  obtain ⟨a, n, c, rfl⟩ := okWide_slice Try.underlying39 hv
  obtain ⟨fuel, hf⟩ := h
  obtain ⟨v', l, he, hr⟩ := open_rowG Try.underlying39 cells52 (by omega) (fun g => LiesF W g) (fun g f cs x hgf h => h.le hgf) fuel (fun g _ => open_F g) _ _ hf
  have : v' = .slice a n c := by simpa [Value.cells] using he.symm
  subst this
  exact ⟨fuel, l, hr⟩
end
end Go.Proofs.Ytcelpmojhjnggaa
