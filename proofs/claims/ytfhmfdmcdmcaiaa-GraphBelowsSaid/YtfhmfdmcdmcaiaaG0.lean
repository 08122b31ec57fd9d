/- What the frame of each law needs: names and rows of names that were handed in lie in memory. -/
import Derived.Test.YtfhmfdmcdmcaiaaB4
import Derived.Test.YtfhmfdmcdmcaiaaRows
import Derived.ProofKit
import Derived.OpenShut
import Derived.ChangeOld
namespace Go.Proofs.Ytfhmfdmcdmcaiaa
set_option maxRecDepth 100000
open Go Go.ChangeShapes Go.WideShapes Go.ChangeAt Go.RowKit

theorem list_choose {α β : Type} : ∀ (ys : List β) (Q : Nat → α → β → Prop), (∀ i y, ys[i]? = some y → ∃ x, Q i x y) → ∃ xs : List α, xs.length = ys.length ∧ ∀ i x y, xs[i]? = some x → ys[i]? = some y → Q i x y
  | [], _, _ => ⟨[], rfl, by simp⟩
  | y :: ys, Q, h => by
    obtain ⟨x, hx⟩ := h 0 y rfl
    obtain ⟨xs, hl, hq⟩ := list_choose ys (fun i => Q (i + 1)) (fun i y hy => h (i + 1) y (by simpa using hy))
    refine ⟨x :: xs, by simp [hl], fun i a b ha hb => ?_⟩
    cases i with
    | zero => simp at ha hb; subst ha hb; exact hx
    | succ i => exact hq i a b (by simpa using ha) (by simpa using hb)
theorem cells9 : Try.prog.cellsOf 9 = 1 := by kernel_rfl
theorem cells22 : Try.prog.cellsOf 22 = 1 := by kernel_rfl
theorem add_off (b o k : Nat) : (⟨b, o, none⟩ : Addr).add k = ⟨b, o + k, none⟩ := by simp [Addr.add]
section
variable {H : Type} {enc : TypeId × Value → H} {W : World} {base : Nat} {held : Bool} {spare : Nat → Bool}
theorem open_rowG {α : Type} {ts t n : Nat} (hu : Try.prog.underlying ts = some (.slice t)) (hc : Try.prog.cellsOf t = n) (hn : 0 < n) (R : List Value → α → Prop) (f : Nat)
    (ih : ∀ g, g < f → ∀ cs x, DataW.trod enc Try.prog W base spare held g t cs = some x → ∃ y, R cs y) (cs : List Value) (x : DataW H × List MemPlace) (h : DataW.trod enc Try.prog W base spare held f ts cs = some x) :
    ∃ a c, ∃ l : List α, cs = [.slice a l.length c] ∧ l.length ≤ c ∧ c ≤ maxLen ∧ (a = none → c = 0) ∧ (l = [] ∨ ∃ b o, a = some ⟨b, o, none⟩ ∧ ∀ i x, l[i]? = some x → ∃ cs : List Value, R cs x ∧ ∀ j u, cs[j]? = some u → W.cell? ⟨b, o + i * n + j, none⟩ = some u) ∧ ∀ x ∈ l, ∃ cs, R cs x := by
  rcases DataW.trod_slice hu h with ⟨rfl, rfl⟩ | ⟨a, len, cap, elems, rest, m, rfl, rfl, rfl, hb, hlc, hcm, hel, hcell, _, _⟩
  · exact ⟨none, 0, [], rfl, by simp, by unfold maxLen; omega, fun _ => rfl, .inl rfl, by simp⟩
  · obtain ⟨l, hll, hq⟩ := list_choose elems (fun i (y : α) _ => ∃ cs : List Value, cs.length = n ∧ R cs y ∧ ∀ j, j < n → W.cell? ((a.add (i * n)).add j) = cs[j]?) (by
      intro i y hy
      have hi : i < len := by rw [← hel]; exact (List.getElem?_eq_some_iff.1 hy).1
      have hc' := hcell i hi
      rw [hy, hc] at hc'
      obtain ⟨cs, hcs, htr⟩ := Option.bind_eq_some_iff.1 hc'
      obtain ⟨_, hlen, hj⟩ := World.cells?_some hcs
      obtain ⟨y, hy'⟩ := ih m (by omega) _ _ htr
      exact ⟨y, cs, hlen, hy', hj⟩)
    refine ⟨some a, cap, l, by rw [hll, hel], by omega, hcm, fun h => (by cases h), ?_, ?_⟩
    · by_cases hne : l = []
      · exact .inl hne
      · right
        have h0 : 0 < l.length := List.length_pos_iff.2 hne
        have hpl : a.spot = none := by
          obtain ⟨cs, hlen, _, hj⟩ := hq 0 l[0] (elems[0]'(by omega)) (List.getElem?_eq_getElem h0) (List.getElem?_eq_getElem (by omega))
          have := hj 0 hn
          rw [List.getElem?_eq_getElem (by omega)] at this
          rw [show (a.add (0 * n)).add 0 = a by unfold Addr.add; simp] at this
          cases hs : a.spot with
          | none => rfl
          | some q => unfold World.cell? at this; rw [hs] at this; split at this <;> simp at this
        obtain ⟨b, o, sp⟩ := a
        obtain rfl : sp = none := hpl
        refine ⟨b, o, rfl, fun i t ht => ?_⟩
        have hi : i < l.length := (List.getElem?_eq_some_iff.1 ht).1
        obtain ⟨cs, hlen, hr, hj⟩ := hq i t (elems[i]'(by omega)) ht (List.getElem?_eq_getElem (by omega))
        refine ⟨cs, hr, fun j u hu => ?_⟩
        have hjn : j < n := by rw [← hlen]; exact (List.getElem?_eq_some_iff.1 hu).1
        have := hj j hjn
        rw [add_off, add_off] at this
        rw [this, hu]
    · intro x hx
      obtain ⟨i, hi, rfl⟩ := List.mem_iff_getElem.1 hx
      obtain ⟨cs, _, hr, _⟩ := hq i l[i] (elems[i]'(by omega)) (List.getElem?_eq_getElem hi) (List.getElem?_eq_getElem (by omega))
      exact ⟨cs, hr⟩
theorem open_str (f : Nat) : ∀ cs x, DataW.trod enc Try.prog W base spare held f 9 cs = some x → ∃ m : ByteArray, cs = [.string m] := by
  intro cs x h
  obtain ⟨a, e0, _, _⟩ := DataW.trod_string Try.underlying9 h
  exact ⟨a, e0⟩
theorem strs_of (f : Nat) : ∀ cs x, DataW.trod enc Try.prog W base spare held f 22 cs = some x → ∃ l, ∃ u, cs = [u] ∧ StrRow W u l := by
  intro cs x h
  obtain ⟨a', c', l, he, h1, h2, _, h4, h5⟩ := open_rowG (enc := enc) (base := base) (held := held) (spare := spare) Try.underlying22 cells9 (by omega) (fun cs (m : ByteArray) => cs = [.string m]) f (fun g _ => open_str g) _ _ h
  refine ⟨l, _, he, a', c', rfl, h1, h2, ?_⟩
  rcases h4 with h4 | ⟨b, o, h6, h7⟩
  · exact .inl h4
  · refine .inr ⟨b, o, h6, fun i m hm => ?_⟩
    obtain ⟨cs, rfl, h8⟩ := h7 i m hm
    have := h8 0 _ rfl
    rwa [Nat.mul_one] at this
theorem open_strs {r : Reach} {b0 : Nat} {v : Value} {d : DataW H} {p : List MemPlace} (hv : Value.okWide Try.prog W r b0 22 v) (h : DataW.Trod enc Try.prog W base spare held 22 v d p) : ∃ l, StrRow W v l := by
  obtain ⟨a, n, c, rfl⟩ := okWide_slice Try.underlying22 hv
  obtain ⟨fuel, hf⟩ := h
  obtain ⟨l, u, he, hs⟩ := strs_of fuel _ _ hf
  have : Value.slice a n c = u := by simpa [Value.cells] using he
  rw [this]
  exact ⟨l, hs⟩
theorem open_nstrs {r : Reach} {b0 : Nat} {v : Value} {d : DataW H} {p : List MemPlace} (hv : Value.okWide Try.prog W r b0 23 v) (h : DataW.Trod enc Try.prog W base spare held 23 v d p) : ∃ l, NStr W v l := by
  obtain ⟨a, n, c, rfl⟩ := okWide_slice Try.underlying23 hv
  obtain ⟨fuel, hf⟩ := h
  obtain ⟨a', c', l, he, h1, h2, _, h4, h5⟩ := open_rowG (enc := enc) (base := base) (held := held) (spare := spare) Try.underlying23 cells22 (by omega) (fun cs (l : List ByteArray) => ∃ u, cs = [u] ∧ StrRow W u l) fuel (fun g _ => strs_of g) _ _ hf
  have : Value.slice a n c = .slice a' l.length c' := by simpa [Value.cells] using he
  rw [this]
  refine ⟨l, a', c', rfl, h1, h2, ?_⟩
  rcases h4 with h4 | ⟨b, o, h6, h7⟩
  · exact .inl h4
  · refine .inr ⟨b, o, h6, fun i m hm => ?_⟩
    obtain ⟨cs, ⟨u, rfl, h9⟩, h8⟩ := h7 i m hm
    have := h8 0 _ rfl
    rw [Nat.mul_one] at this
    exact ⟨u, this, h9⟩
end
end Go.Proofs.Ytfhmfdmcdmcaiaa
