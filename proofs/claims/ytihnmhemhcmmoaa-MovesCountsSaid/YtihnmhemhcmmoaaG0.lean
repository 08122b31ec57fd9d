/- What the frame of each law needs: rows of copies and of numbers that were handed in lie in memory. -/
import Derived.Test.YtihnmhemhcmmoaaB2
import Derived.Test.YtihnmhemhcmmoaaRows
import Derived.ProofKit
import Derived.OpenShut
import Derived.ChangeOld
namespace Go.Proofs.Ytihnmhemhcmmoaa
set_option maxRecDepth 100000
open Go Go.ChangeShapes Go.WideShapes Go.ChangeAt Go.RowKit

theorem list_choose {α β : Type} : ∀ (ys : List β) (Q : Nat → α → β → Prop), (∀ i y, ys[i]? = some y → ∃ x, Q i x y) → ∃ xs : List α, xs.length = ys.length ∧ ∀ i x y, xs[i]? = some x → ys[i]? = some y → Q i x y
  | [], _, _ => ⟨[], rfl, by simp⟩
  | y :: ys, Q, h => by
    obtain ⟨x, hx⟩ := h 0 y rfl
    obtain ⟨xs, hl, hq⟩ := list_choose ys (fun i => Q (i + 1)) (fun i y hy => h (i + 1) y (by simpa using hy))
    refine ⟨x :: xs, by simp [hl], fun i a b ha hb => ?_⟩
    cases i with
    | zero => simp at ha hb; subst ha hb; exact hx
    | succ i => exact hq i a b (by simpa using ha) (by simpa using hb)
theorem cells31 : Try.prog.cellsOf 31 = 2 := by kernel_rfl
theorem cells3 : Try.prog.cellsOf 3 = 1 := by kernel_rfl
theorem cells2 : Try.prog.cellsOf 2 = 1 := by kernel_rfl
theorem list2 {α : Type} {l : List α} (h : l.length = 2) : ∃ a b, l = [a, b] := by
  match l, h with
  | [a, b], _ => exact ⟨a, b, rfl⟩
section
variable {H : Type} {enc : TypeId × Value → H} {W : World} {base : Nat} {held : Bool} {spare : Nat → Bool}
theorem open_rowG {α : Type} {ts t n : Nat} (hu : Try.prog.underlying ts = some (.slice t)) (hc : Try.prog.cellsOf t = n) (hn : 0 < n) (R : List Value → α → Prop) (f : Nat)
    (ih : ∀ g, g < f → ∀ cs x, DataW.trod enc Try.prog W base spare held g t cs = some x → ∃ y, R cs y) (cs : List Value) (x : DataW H × List MemPlace) (h : DataW.trod enc Try.prog W base spare held f ts cs = some x) :
    ∃ a c, ∃ l : List α, cs = [.slice a l.length c] ∧ l.length ≤ c ∧ c ≤ maxLen ∧ (a = none → c = 0) ∧ (l = [] ∨ ∃ b o, a = some ⟨b, o, none⟩ ∧ ∀ i x, l[i]? = some x → ∃ cs : List Value, R cs x ∧ ∀ j u, cs[j]? = some u → W.cell? ⟨b, o + i * n + j, none⟩ = some u) ∧ ∀ x ∈ l, ∃ cs, R cs x := by
  rcases DataW.trod_slice hu h with ⟨rfl, rfl⟩ | ⟨a, len, cap, elems, rest, m, rfl, rfl, rfl, hb, hlc, hcm, hel, hcell, _, _⟩
  · exact ⟨none, 0, [], rfl, by simp, by unfold maxLen; omega, fun _ => rfl, .inl rfl, by simp⟩
  · obtain ⟨l, hll, hq⟩ := list_choose elems (fun i (y : α) _ => ∃ cs : List Value, cs.length = n ∧ R cs y ∧ ∀ j, j < n → W.cell? ((a.add (i * n)).add j) = cs[j]?) (by
      intro i y hy
      have hi : i < len := by rw [← hel]; exact (List.getElem?_eq_some_iff.1 hy).1
      have hc' := hcell i hi
      rw [hy, hc] at hc'
      obtain ⟨cs, hcs, htr⟩ := Option.bind_eq_some_iff.1 hc'
      obtain ⟨_, hlen, hj⟩ := World.cells?_some hcs
      obtain ⟨y, hy'⟩ := ih m (by omega) _ _ htr
      exact ⟨y, cs, hlen, hy', hj⟩)
    refine ⟨some a, cap, l, by rw [hll, hel], by omega, hcm, fun h => (by cases h), ?_, ?_⟩
    · by_cases hne : l = []
      · exact .inl hne
      · right
        have h0 : 0 < l.length := List.length_pos_iff.2 hne
        have hpl : a.spot = none := by
          obtain ⟨cs, hlen, _, hj⟩ := hq 0 l[0] (elems[0]'(by omega)) (List.getElem?_eq_getElem h0) (List.getElem?_eq_getElem (by omega))
          have := hj 0 hn
          rw [List.getElem?_eq_getElem (by omega)] at this
          rw [show (a.add (0 * n)).add 0 = a by unfold Addr.add; simp] at this
          cases hs : a.spot with
          | none => rfl
          | some q => unfold World.cell? at this; rw [hs] at this; split at this <;> simp at this
        obtain ⟨b, o, sp⟩ := a
        obtain rfl : sp = none := hpl
        refine ⟨b, o, rfl, fun i t ht => ?_⟩
        have hi : i < l.length := (List.getElem?_eq_some_iff.1 ht).1
        obtain ⟨cs, hlen, hr, hj⟩ := hq i t (elems[i]'(by omega)) ht (List.getElem?_eq_getElem (by omega))
        refine ⟨cs, hr, fun j u hu => ?_⟩
        have hjn : j < n := by rw [← hlen]; exact (List.getElem?_eq_some_iff.1 hu).1
        have := hj j hjn
        rw [add_off, add_off] at this
        rw [this, hu]
    · intro x hx
      obtain ⟨i, hi, rfl⟩ := List.mem_iff_getElem.1 hx
      obtain ⟨cs, _, hr, _⟩ := hq i l[i] (elems[i]'(by omega)) (List.getElem?_eq_getElem hi) (List.getElem?_eq_getElem (by omega))
      exact ⟨cs, hr⟩
theorem open_mv (f : Nat) : ∀ cs x, DataW.trod enc Try.prog W base spare held f 31 cs = some x → ∃ m : Mv, cs = [.int .i64 m.tc, .int .i64 m.frm] ∧ I64 m.tc ∧ I64 m.frm := by
  intro cs x h
  obtain ⟨xs, n, rfl, rfl, hl, hlen, hf⟩ := DataW.trod_struct Try.underlying31 h
  rw [cells31] at hl
  obtain ⟨y0, y1, rfl⟩ := list2 (show xs.length = 2 from hlen)
  obtain ⟨c0, c1, rfl⟩ := list2 hl
  obtain ⟨a, e0, _, h0⟩ := DataW.trod_int Try.underlying3 (by have := hf 0 _ rfl; simpa [cells3] using this)
  obtain ⟨b, e1, _, h1⟩ := DataW.trod_int Try.underlying3 (by have := hf 1 _ rfl; simpa [cells3] using this)
  simp only [List.cons.injEq, and_true] at e0 e1
  subst e0 e1
  exact ⟨⟨a, b⟩, rfl, h0, h1⟩
theorem open_num (f : Nat) : ∀ cs x, DataW.trod enc Try.prog W base spare held f 2 cs = some x → ∃ m : Int, cs = [.int .i64 m] := by
  intro cs x h
  obtain ⟨a, e0, _, _⟩ := DataW.trod_int Try.underlying2 h
  exact ⟨a, e0⟩
theorem open_mvs {r : Reach} {b0 : Nat} {v : Value} {d : DataW H} {p : List MemPlace} (hv : Value.okWide Try.prog W r b0 22 v) (h : DataW.Trod enc Try.prog W base spare held 22 v d p) : ∃ l, MvRow W v l := by
  obtain ⟨a, n, c, rfl⟩ := okWide_slice Try.underlying22 hv
  obtain ⟨fuel, hf⟩ := h
  obtain ⟨a', c', l, he, h1, h2, _, h4, h5⟩ := open_rowG (enc := enc) (base := base) (held := held) (spare := spare) Try.underlying22 cells31 (by omega) (fun cs (m : Mv) => cs = [.int .i64 m.tc, .int .i64 m.frm] ∧ I64 m.tc ∧ I64 m.frm) fuel (fun g _ => open_mv g) _ _ hf
  have : Value.slice a n c = .slice a' l.length c' := by simpa [Value.cells] using he
  rw [this]
  refine ⟨l, ⟨a', c', rfl, h1, h2, ?_⟩, fun m hm => by obtain ⟨cs, h6⟩ := h5 m hm; exact h6.2⟩
  rcases h4 with h4 | ⟨b, o, h6, h7⟩
  · exact .inl h4
  · refine .inr ⟨b, o, h6, fun i m hm => ?_⟩
    obtain ⟨cs, ⟨rfl, _⟩, h8⟩ := h7 i m hm
    exact ⟨h8 0 _ rfl, h8 1 _ rfl⟩
theorem open_i64s {r : Reach} {b0 : Nat} {v : Value} {d : DataW H} {p : List MemPlace} (hv : Value.okWide Try.prog W r b0 33 v) (h : DataW.Trod enc Try.prog W base spare held 33 v d p) : ∃ l, IRow W v l := by
  obtain ⟨a, n, c, rfl⟩ := okWide_slice Try.underlying33 hv
  obtain ⟨fuel, hf⟩ := h
  obtain ⟨a', c', l, he, h1, h2, h3, h4, _⟩ := open_rowG (enc := enc) (base := base) (held := held) (spare := spare) Try.underlying33 cells2 (by omega) (fun cs (m : Int) => cs = [.int .i64 m]) fuel (fun g _ => open_num g) _ _ hf
  have : Value.slice a n c = .slice a' l.length c' := by simpa [Value.cells] using he
  rw [this]
  refine ⟨l, a', c', rfl, h1, h2, h3, ?_⟩
  rcases h4 with h4 | ⟨b, o, h6, h7⟩
  · exact .inl h4
  · refine .inr ⟨b, o, h6, fun i m hm => ?_⟩
    obtain ⟨cs, rfl, h8⟩ := h7 i m hm
    have := h8 0 _ rfl
    rwa [Nat.mul_one] at this
end
theorem MovesDoes_f (vm : Value) (ms : List Mv) (vc : Value) (l : List Int) (w : World) (hm : MvRow w vm ms) (hl : IRow w vc l) :
    Calls Try.prog 4 #[vm, vc] w fun e w' => e = .returned (.bool true) ∧ Below w.heap.size w w' :=
  MovesDoes_any w vm vc ms l hm hl (by obtain ⟨⟨a, c, _, h1, h2, _⟩, _⟩ := hm; unfold maxLen at h2; omega)
end Go.Proofs.Ytihnmhemhcmmoaa
